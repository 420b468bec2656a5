/- The law of Needs. -/
import Derived.Test.YtdfdjgolijckfaaDoorQw1
import Derived.Test.YtdfdjgolijckfaaDoorQw3
import Derived.Test.YtdfdjgolijckfaaDoorQw0
import Derived.Test.YtdfdjgolijckfaaDoorQw6
import Derived.LaidMore
import Derived.Deep.DeepWitnessRowRef
import Derived.Deep.DeepHandedRow
import Derived.Stop.Joined
import Derived.SevenTiedAt
import Derived.Test.YtdfdjgolijckfaaDoorTie
import Derived.Test.YtdfdjgolijckfaaDoorCards
namespace Go.Proofs.YtdfdjgolijckfaaDoor
attribute [local irreducible] FU
theorem gs_new {c : List Int} (hc : c.length ≤ maxLen ∧ ∀ x ∈ c, (Lit.int .i64 x).wf = true) : GS c 0 := ⟨by omega, by omega, by have := hc.1; unfold maxLen at this; omega⟩
end Go.Proofs.YtdfdjgolijckfaaDoor
/- Apply, both ways. -/
namespace Go.Proofs.YtdfdjgolijckfaaDoor
attribute [local irreducible] FU
/-- What the generator builds is valid. -/
theorem Ty.aft {V : Int} : ∀ {d : Nat} {a : List Nd}, Ty V d a → ∀ (pre post : List Nd) (D : Nat), d ≤ D → aft (pre ++ (a ++ post)) D pre.length = some (pre.length + a.length)
  | _, _, .leaf (k := k) (m := m) h hv, pre, post, D, hD => by
    obtain ⟨D, rfl⟩ : ∃ q, D = q + 1 := ⟨D - 1, by omega⟩
    rw [Go.Proofs.YtdfdjgolijckfaaDoor.aft, List.getElem?_append_right (Nat.le_refl _), Nat.sub_self]
    show (if fmB (k, m, 0) = true then _ else none) = _
    rw [if_pos h]; rfl
  | _, _, .one (a := a) (k := k) h ha, pre, post, D, hD => by
    obtain ⟨D, rfl⟩ : ∃ q, D = q + 1 := ⟨D - 1, by omega⟩
    rw [Go.Proofs.YtdfdjgolijckfaaDoor.aft, List.getElem?_append_right (Nat.le_refl _), Nat.sub_self]
    show (if fmB (k, 0, 1) = true then aftK _ 1 (pre.length + 1) else none) = _
    have h1 := ha.aft (pre ++ [(k, 0, 1)]) post D (by omega)
    rw [List.append_assoc, List.length_append, List.length_singleton] at h1
    rw [if_pos h, aftK, List.cons_append]
    rw [List.singleton_append] at h1
    rw [h1, Option.bind_some, aftK, List.length_cons]
    congr 1; omega
  | _, _, .two (a := a) (b := b) (k := k) h ha hb, pre, post, D, hD => by
    obtain ⟨D, rfl⟩ : ∃ q, D = q + 1 := ⟨D - 1, by omega⟩
    rw [Go.Proofs.YtdfdjgolijckfaaDoor.aft, List.getElem?_append_right (Nat.le_refl _), Nat.sub_self]
    show (if fmB (k, 0, 2) = true then aftK _ 2 (pre.length + 1) else none) = _
    have h1 := ha.aft (pre ++ [(k, 0, 2)]) (b ++ post) D (by omega)
    have h2 := hb.aft (pre ++ [(k, 0, 2)] ++ a) post D (by omega)
    rw [if_pos h, aftK, List.cons_append]
    simp only [List.append_assoc, List.length_append, List.length_cons, List.length_nil, List.singleton_append, List.cons_append, List.nil_append, Nat.zero_add] at h1 h2 ⊢
    rw [h1, Option.bind_some, aftK, show pre.length + 1 + a.length = pre.length + (a.length + 1) by omega, h2, Option.bind_some, aftK]
    congr 1; omega
theorem Ty.vd {V : Int} {d : Nat} {a : List Nd} (h : Ty V d a) (hd : d ≤ 9) : vdB a = true := by
  have h1 := h.aft [] [] 64 (by omega)
  have h2 := h.len
  have : 2 ^ d ≤ 2 ^ 9 := Nat.pow_le_pow_right (by omega) hd
  simp only [List.nil_append, List.append_nil, List.length_nil, Nat.zero_add] at h1
  exact decide_eq_true ⟨h2.2, by omega, h1⟩
abbrev Bd := Int × List Nd
/-- A substitution: its types are valid, its variables grow. -/
def sbC : Option Int → List Bd → Bool
  | _, [] => true
  | p, a :: l => vdB a.2 && (match p with | none => true | some v => decide (v < a.1)) && sbC (some a.1) l
abbrev sbB (s : List Bd) : Bool := sbC none s
theorem sbC_cons (p : Option Int) (a : Bd) (l : List Bd) : sbC p (a :: l) = (vdB a.2 && (match p with | none => true | some v => decide (v < a.1)) && sbC (some a.1) l) := by cases p <;> rfl
theorem sbC_nil (p : Option Int) : sbC p [] = true := by cases p <;> rfl
/-- The variable before index j. -/
def prv (s : List Bd) : Nat → Option Int
  | 0 => none
  | j + 1 => (s[j]?).map (·.1)
theorem prv_succ {s : List Bd} {j : Nat} (h : j < s.length) : prv s (j + 1) = some s[j].1 := by simp [prv, h]
theorem vSubst {s : List Bd} (hl : s.length ≤ maxLen) (K : List Bd → Option (List Bd × Bool)) : ∀ (u : List Bd) (j n : Nat) (m : List Bd), s.drop j = u → j ≤ s.length → u.length < n → (∀ x ∈ s.take j, ∃ v, prv s j = some v ∧ x.1 ≤ v) → (∀ v, lookL m v = lookL (s.take j) v) →
    ∃ m', m_types_substitution_L2 s K n m (j : Int) = (if sbC (prv s j) u = true then K m' else some ([], false)) ∧ (sbC (prv s j) u = true → ∀ v, lookL m' v = lookL s v)
  | [], j, 0, _, _, _, h, _, _ => by simp at h
  | [], j, n + 1, m, hd, hj, _, _, hm => by
    have := congrArg List.length hd
    simp at this
    refine ⟨m, by rw [m_types_substitution_L2, m_types_substitution_B2, if_neg (by omega), sbC_nil, if_pos rfl], fun _ v => ?_⟩
    rw [hm, List.take_of_length_le (by omega)]
  | a :: u, j, 0, _, _, _, h, _, _ => by simp at h
  | a :: u, j, n + 1, m, hd, hj, hn, hp, hm => by
    unfold maxLen at hl
    have hlen := congrArg List.length hd
    simp at hlen
    have hjl : j < s.length := by omega
    have ha : s[j] = a ∧ s.drop (j + 1) = u := by rw [List.drop_eq_getElem_cons hjl] at hd; exact ⟨(List.cons.inj hd).1, (List.cons.inj hd).2⟩
    have htk : s.take (j + 1) = s.take j ++ [a] := by rw [List.take_succ_eq_append_getElem hjl, ha.1]
    rw [m_types_substitution_L2, m_types_substitution_B2, if_pos (by omega), need_pos (by omega), jn_eq, gi_nat hjl, vValid, bnd1_mk, ha.1, sbC_cons, i64s (by omega)]
    cases hv : vdB a.2 with
    | false => exact ⟨m, rfl, fun h => by cases h⟩
    | true =>
      rw [Bool.not_true, if_neg (by simp)]
      by_cases hpr : ∃ v, prv s j = some v ∧ ¬ v < a.1
      · obtain ⟨v, hv1, hv2⟩ := hpr
        match j, hjl, hv1 with
        | 0, _, hv1 => cases hv1
        | j + 1, hjl, hv1 =>
          have e : i64 (((j + 1 : Nat) : Int) - 1) = (j : Int) := by rw [i64_id (by omega)]; omega
          have hvs : v = s[j].1 := by rw [prv_succ (by omega : j < s.length)] at hv1; exact (Option.some.inj hv1).symm
          rw [if_pos (by omega), e, need_pos (by omega), gi_nat (by omega : j < s.length), hv1]
          refine ⟨m, ?_, fun h => ?_⟩
          · simp only [decide_eq_true (show a.1 ≤ s[j].1 by omega), decide_eq_false hv2, ↓reduceIte, Bool.and_false, Bool.false_and, Bool.false_eq_true]
          · simp only [decide_eq_false hv2, Bool.and_false, Bool.false_and, Bool.false_eq_true] at h
      · have hpr' : ∀ v, prv s j = some v → v < a.1 := fun v h => Classical.not_not.1 fun h2 => hpr ⟨v, h, h2⟩
        have hnew : ∀ v, lookL (putL m a.1 a.2) v = lookL (s.take (j + 1)) v := fun v => by
          rw [lookL_put, htk, lookL_app, ← hm, lookL, lookL]
          by_cases e : a.1 = v
          · rw [if_pos e, if_pos e]
            have : lookL m v = none := by
              rw [hm]
              refine lookL_lt (fun x hx he => ?_)
              obtain ⟨w, h1, h2⟩ := hp x hx
              have := hpr' w h1; omega
            rw [this]
          · rw [if_neg e, if_neg e]
            cases lookL m v <;> rfl
        obtain ⟨m', r1, r2⟩ := vSubst (s := s) (by unfold maxLen; omega) K u (j + 1) n (putL m a.1 a.2) ha.2 (by omega) (by simp at hn; omega) (fun x hx => by
          refine ⟨a.1, by rw [prv_succ hjl, ha.1], ?_⟩
          rw [htk, List.mem_append, List.mem_singleton] at hx
          rcases hx with hx | rfl
          · obtain ⟨w, h1, h2⟩ := hp x hx
            have := hpr' w h1; omega
          · omega) hnew
        rw [prv_succ hjl, ha.1] at r1 r2
        have hsb : (true && (match prv s j with | none => true | some v => decide (v < a.1)) && sbC (some a.1) u) = sbC (some a.1) u := by
          cases hq : prv s j with
          | none => simp
          | some v => simp [hpr' v hq]
        rw [hsb]
        refine ⟨m', ?_, r2⟩
        rw [← r1]
        match j, hjl, hpr' with
        | 0, _, _ => rw [if_neg (by simp)]; rfl
        | j + 1, hjl, hpr' =>
          have e : i64 (((j + 1 : Nat) : Int) - 1) = (j : Int) := by rw [i64_id (by omega)]; omega
          have := hpr' s[j].1 (prv_succ (by omega : j < s.length))
          rw [if_pos (by omega), e, need_pos (by omega), gi_nat (by omega : j < s.length), decide_eq_false (by omega)]
          rfl
theorem vSub {s : List Bd} (hl : s.length ≤ maxLen) : ∃ m, m_types_substitution s = some (m, sbB s) ∧ (sbB s = true → ∀ v, lookL m v = lookL s v) := by
  obtain ⟨m', h1, h2⟩ := vSubst hl (fun x => some (x, true)) s 0 FU [] rfl (Nat.zero_le _) (by have := FU_ge; unfold maxLen at hl; omega) (by simp) (by simp)
  unfold m_types_substitution
  rw [jn_eq, show (0 : Int) = ((0 : Nat) : Int) from rfl, h1]
  by_cases h : sbC (prv s 0) s = true
  · rw [if_pos h]; exact ⟨m', by rw [show sbB s = true from h], fun _ => h2 h⟩
  · rw [if_neg h]; exact ⟨[], by rw [show sbB s = false from Bool.eq_false_iff.2 h], fun hh => absurd hh h⟩
theorem sbC_spec : ∀ {p : Option Int} {s : List Bd}, sbC p s = true → SrK s ∧ (∀ x ∈ s, vdB x.2 = true) ∧ (∀ v, p = some v → ∀ x ∈ s, v < x.1)
  | _, [], _ => ⟨List.Pairwise.nil, by simp, by simp⟩
  | p, a :: l, h => by
    rw [sbC_cons, Bool.and_eq_true, Bool.and_eq_true] at h
    obtain ⟨⟨h1, h2⟩, h3⟩ := h
    obtain ⟨i1, i2, i3⟩ := sbC_spec h3
    refine ⟨List.pairwise_cons.2 ⟨fun x hx => i3 _ rfl x hx, i1⟩, fun x hx => ?_, fun v hv x hx => ?_⟩
    · rcases List.mem_cons.1 hx with rfl | hx
      · exact h1
      · exact i2 x hx
    · subst hv
      have h2 : v < a.1 := of_decide_eq_true h2
      rcases List.mem_cons.1 hx with rfl | hx
      · exact h2
      · have := i3 _ rfl x hx; omega
/-- A node, replaced. -/
def subN (s : List Bd) (n : Nd) : List Nd := if n.1 = 1 then (lookL s n.2.1).getD [n] else [n]
abbrev rep (s : List Bd) (t : List Nd) : List Nd := t.flatMap (subN s)
theorem subN_len {s : List Bd} (hs : sbB s = true) (n : Nd) : (subN s n).length ≤ 512 := by
  unfold subN
  split
  · cases h : lookL s n.2.1 with
    | none => simp
    | some t => exact vdB_len ((sbC_spec hs).2.1 _ (lookL_mem h))
  · simp
theorem vApplyL {s m : List Bd} (hs : sbB s = true) (hm : ∀ v, lookL m v = lookL s v) {t : List Nd} (hl : t.length ≤ 512) (ok : Bool) (K : List Nd → Option (List Nd)) : ∀ (u : List Nd) (j n : Nat) (o : List Nd), t.drop j = u → j ≤ t.length → u.length < n → o.length ≤ 512 * j →
    m_types_Apply_L2 t (m, ok) K n o (j : Int) = K (o ++ rep s u)
  | [], j, 0, _, _, _, h, _ => by simp at h
  | [], j, n + 1, o, hd, hj, _, _ => by
    have := congrArg List.length hd
    simp at this
    rw [m_types_Apply_L2, m_types_Apply_B2, if_neg (by omega)]; simp
  | a :: u, j, 0, _, _, _, h, _ => by simp at h
  | a :: u, j, n + 1, o, hd, hj, hn, ho => by
    have hlen := congrArg List.length hd
    simp at hlen
    have hjl : j < t.length := by omega
    have ha : t[j] = a ∧ t.drop (j + 1) = u := by rw [List.drop_eq_getElem_cons hjl] at hd; exact ⟨(List.cons.inj hd).1, (List.cons.inj hd).2⟩
    have hsl := subN_len hs a
    have hr := vApplyL hs hm hl ok K u (j + 1) n (o ++ subN s a) ha.2 (by omega) (by simp at hn; omega) (by rw [List.length_append]; omega)
    rw [m_types_Apply_L2, m_types_Apply_B2, if_pos (by omega), jn_eq, need_pos (by omega), jn_eq, gi_nat hjl, ha.1, hm, i64s (by omega)]
    have hfl : o ++ rep s (a :: u) = o ++ subN s a ++ rep s u := by simp [rep]
    rw [hfl, ← hr]
    unfold subN at hsl ⊢
    cases hx : lookL s a.2.1 with
    | none =>
      rw [hx] at hsl
      simp only [Option.isSome_none, Bool.false_eq_true, ↓reduceIte, Option.getD_none]
      rw [need_pos (by simp; omega)]
      split <;> rfl
    | some z =>
      rw [hx] at hsl
      simp only [Option.isSome_some, ↓reduceIte, Option.getD_some]
      by_cases h1 : a.1 = 1
      · rw [if_pos h1] at hsl
        simp only [h1, decide_true, ↓reduceIte]
        rw [need_pos (by simp only [Option.getD_some] at hsl; omega)]
      · simp only [h1, decide_false, Bool.false_eq_true, ↓reduceIte]
        rw [need_pos (by simp; omega)]
/-- What Apply answers. -/
def apR (s : List Bd) (t : List Nd) : List Nd := if sbB s = true ∧ vdB t = true ∧ vdB (rep s t) = true then rep s t else []
theorem vClipN (t : List Nd) : m_slices_Clip_L_api_TypeNode_api_TypeNode t = some t := by
  unfold m_slices_Clip_L_api_TypeNode_api_TypeNode
  rw [need_pos (by omega), Int.toNat_natCast, List.take_length]
theorem vApply {s : List Bd} (hl : s.length ≤ maxLen) (t : List Nd) : m_types_Apply s t = some (apR s t) := by
  obtain ⟨m, h1, h2⟩ := vSub hl
  unfold m_types_Apply apR
  rw [h1, bnd1_mk]
  simp only [jn_eq]
  cases hs : sbB s with
  | false => simp
  | true =>
    rw [Bool.not_true, if_neg (by simp), vValid, bnd1_mk]
    cases ht : vdB t with
    | false => simp
    | true =>
      have hg := fun K => vApplyL hs (h2 hs) (vdB_len ht) true K t 0 FU [] rfl (Nat.zero_le _) (by have := FU_ge; have := vdB_len ht; omega) (by simp)
      rw [Bool.not_true, if_neg (by simp), show (0 : Int) = ((0 : Nat) : Int) from rfl, hg, List.nil_append, vValid, bnd1_mk]
      cases hr : vdB (rep s t) with
      | false => simp
      | true => rw [Bool.not_true, if_neg (by simp), vClipN, bnd1_mk, if_pos ⟨rfl, rfl, rfl⟩]
end Go.Proofs.YtdfdjgolijckfaaDoor
/- Apply of the reference; exchanging variables; the law of Apply. -/
namespace Go.Proofs.YtdfdjgolijckfaaDoor
attribute [local irreducible] FU
theorem eqNode_loop (l : List Nd) (hl : l.length ≤ 4611686018427387904) (K : Unit → Option Bool) : ∀ (m j n : Nat), j + m = l.length → m < n → m_help_Equal_api_TypeNode_L2 l l K n (j : Int) = K ()
  | 0, j, n, hj, hn => by
    obtain ⟨n, rfl⟩ : ∃ q, n = q + 1 := ⟨n - 1, by omega⟩
    rw [m_help_Equal_api_TypeNode_L2, m_help_Equal_api_TypeNode_B2, if_neg (by omega)]
  | m + 1, j, n, hj, hn => by
    obtain ⟨n, rfl⟩ : ∃ q, n = q + 1 := ⟨n - 1, by omega⟩
    rw [m_help_Equal_api_TypeNode_L2, m_help_Equal_api_TypeNode_B2, if_pos (by omega), need_pos (by omega), need_pos (by omega), if_neg (fun h => h rfl), i64s (by omega)]
    exact eqNode_loop l hl K m (j + 1) n (by omega) (by omega)
theorem eqNode (l : List Nd) (hl : l.length ≤ 4611686018427387904) : m_help_Equal_api_TypeNode l l = some true := by
  unfold m_help_Equal_api_TypeNode
  rw [if_neg (fun h => h rfl), jn_eq]
  exact eqNode_loop l hl _ l.length 0 FU (by omega) (by have := FU_ge; omega)
/-! ### Exchanging two variables -/
/-! ### The law -/
end Go.Proofs.YtdfdjgolijckfaaDoor
/- Types as trees laid out in rows. -/
namespace Go.Proofs.YtdfdjgolijckfaaDoor
attribute [local irreducible] FU
/-- A tree, at most d deep. -/
def Tr : Nat → List Nd → Prop
  | 0, _ => False
  | d + 1, t => ∃ (k m : Int) (ks : List (List Nd)), t = (k, m, (ks.length : Int)) :: ks.flatten ∧ fmB (k, m, (ks.length : Int)) = true ∧ ∀ x ∈ ks, Tr d x
theorem Tr.up : ∀ {d : Nat} {t : List Nd}, Tr d t → Tr (d + 1) t
  | 0, _, h => h.elim
  | d + 1, _, ⟨k, m, ks, h1, h2, h3⟩ => ⟨k, m, ks, h1, h2, fun x hx => (h3 x hx).up⟩
theorem Tr.le {d e : Nat} {t : List Nd} (h : Tr d t) (he : d ≤ e) : Tr e t := by
  induction e with
  | zero =>
    have : d = 0 := by omega
    subst this; exact h
  | succ e ih =>
    rcases Nat.eq_or_lt_of_le he with rfl | h2
    · exact h
    · exact (ih (by omega)).up
theorem Tr.pos {d : Nat} {t : List Nd} (h : Tr d t) : 0 < t.length := by
  match d, h with
  | 0, h => exact h.elim
  | d + 1, ⟨k, m, ks, h1, _, _⟩ => rw [h1]; simp
theorem trs_aft {D : Nat} (hT : ∀ (a pre post : List Nd), Tr D a → aft (pre ++ (a ++ post)) D pre.length = some (pre.length + a.length)) : ∀ (ks : List (List Nd)) (pre post : List Nd), (∀ x ∈ ks, Tr D x) → aftK (aft (pre ++ (ks.flatten ++ post)) D) ks.length pre.length = some (pre.length + ks.flatten.length)
  | [], pre, post, _ => by simp [aftK]
  | x :: ks, pre, post, h => by
    have h1 := hT x pre (ks.flatten ++ post) (h x List.mem_cons_self)
    have h2 := trs_aft hT ks (pre ++ x) post (fun y hy => h y (List.mem_cons_of_mem _ hy))
    rw [List.length_cons, aftK, List.flatten_cons, List.append_assoc, h1, Option.bind_some]
    rw [List.append_assoc, List.length_append] at h2
    rw [h2, List.length_append]
    congr 1; omega
theorem Tr.aft : ∀ {d : Nat} {a : List Nd} (pre post : List Nd), Tr d a → Go.Proofs.YtdfdjgolijckfaaDoor.aft (pre ++ (a ++ post)) d pre.length = some (pre.length + a.length)
  | 0, _, _, _, h => h.elim
  | d + 1, _, pre, post, ⟨k, m, ks, h1, h2, h3⟩ => by
    subst h1
    rw [Go.Proofs.YtdfdjgolijckfaaDoor.aft, List.getElem?_append_right (Nat.le_refl _), Nat.sub_self]
    show (if fmB (k, m, (ks.length : Int)) = true then aftK _ (ks.length : Int).toNat (pre.length + 1) else none) = _
    have h4 := trs_aft (D := d) (fun a pre post h => h.aft pre post) ks (pre ++ [(k, m, (ks.length : Int))]) post h3
    rw [if_pos h2, Int.toNat_natCast, List.cons_append]
    rw [List.append_assoc, List.singleton_append, List.length_append, List.length_singleton] at h4
    rw [h4, List.length_cons]
    congr 1; omega
theorem aftK_tr {t : List Nd} {D : Nat} (hT : ∀ i k, aft t D i = some k → ∃ a, Tr D a ∧ t.drop i = a ++ t.drop k) : ∀ (m i k : Nat), aftK (aft t D) m i = some k → ∃ ks : List (List Nd), ks.length = m ∧ (∀ x ∈ ks, Tr D x) ∧ t.drop i = ks.flatten ++ t.drop k
  | 0, i, k, h => by simp only [aftK, Option.some.injEq] at h; subst h; exact ⟨[], rfl, by simp, by simp⟩
  | m + 1, i, k, h => by
    rw [aftK] at h
    cases hx : aft t D i with
    | none => rw [hx] at h; cases h
    | some j =>
      rw [hx] at h
      obtain ⟨a, h1, h2⟩ := hT i j hx
      obtain ⟨ks, h3, h4, h5⟩ := aftK_tr hT m j k h
      refine ⟨a :: ks, by simp [h3], fun x hx => ?_, by rw [h2, h5]; simp⟩
      rcases List.mem_cons.1 hx with rfl | hx
      · exact h1
      · exact h4 x hx
theorem aft_tr (t : List Nd) : ∀ (D i k : Nat), aft t D i = some k → ∃ a, Tr D a ∧ t.drop i = a ++ t.drop k
  | 0, i, k, h => by simp [aft] at h
  | D + 1, i, k, h => by
    rw [aft] at h
    cases hx : t[i]? with
    | none => rw [hx] at h; cases h
    | some n =>
      rw [hx] at h
      obtain ⟨hi, he⟩ := List.getElem?_eq_some_iff.1 hx
      dsimp only at h
      split at h
      · rename_i hf
        obtain ⟨ks, h1, h2, h3⟩ := aftK_tr (aft_tr t D) _ _ _ h
        have hk := fm_kids hf
        have hn : n = (n.1, n.2.1, (ks.length : Int)) := by
          rw [h1]; exact Prod.ext rfl (Prod.ext rfl (by dsimp only; omega))
        refine ⟨n :: ks.flatten, ⟨n.1, n.2.1, ks, by rw [← hn], by rw [← hn]; exact hf, h2⟩, ?_⟩
        rw [List.drop_eq_getElem_cons hi, he, h3]; rfl
      · cases h
theorem vd_tr {t : List Nd} : vdB t = true ↔ Tr 64 t ∧ t.length ≤ 512 := by
  constructor
  · intro h
    obtain ⟨h1, h2, h3⟩ := of_decide_eq_true h
    obtain ⟨a, ha, hd⟩ := aft_tr t 64 0 _ h3
    rw [List.drop_zero, List.drop_length, List.append_nil] at hd
    exact ⟨hd ▸ ha, h2⟩
  · rintro ⟨h1, h2⟩
    have h3 := h1.aft [] []
    rw [List.append_nil, List.nil_append, List.length_nil, Nat.zero_add] at h3
    exact decide_eq_true ⟨h1.pos, h2, h3⟩
theorem Ty.tr {V : Int} : ∀ {d : Nat} {t : List Nd}, Ty V d t → Tr d t
  | _, _, .leaf (k := k) (m := m) h _ => ⟨k, m, [], rfl, h, by simp⟩
  | _, _, .one (k := k) (a := a) h ha => ⟨k, 0, [a], by simp, h, by simpa using ha.tr⟩
  | _, _, .two (k := k) (a := a) (b := b) h ha hb => ⟨k, 0, [a, b], by simp, h, by simpa using ⟨ha.tr, hb.tr⟩⟩
/-- A row, its variables replaced. -/
def asg (σ : Int → List Nd) (n : Nd) : List Nd := if n.1 = 1 then σ n.2.1 else [n]
abbrev sbt (σ : Int → List Nd) (t : List Nd) : List Nd := t.flatMap (asg σ)
def TrS (σ : Int → List Nd) : Prop := ∀ v, ∃ e, Tr e (σ v)
theorem trs_depth : ∀ (ks : List (List Nd)), (∀ x ∈ ks, ∃ e, Tr e x) → ∃ e, ∀ x ∈ ks, Tr e x
  | [], _ => ⟨0, by simp⟩
  | x :: ks, h => by
    obtain ⟨e1, h1⟩ := h x List.mem_cons_self
    obtain ⟨e2, h2⟩ := trs_depth ks (fun y hy => h y (List.mem_cons_of_mem _ hy))
    refine ⟨max e1 e2, fun y hy => ?_⟩
    rcases List.mem_cons.1 hy with rfl | hy
    · exact h1.le (Nat.le_max_left _ _)
    · exact (h2 y hy).le (Nat.le_max_right _ _)
theorem sbt_flatten (σ : Int → List Nd) (ks : List (List Nd)) : sbt σ ks.flatten = (ks.map (sbt σ)).flatten := by
  induction ks with
  | nil => rfl
  | cons x ks ih => rw [List.flatten_cons, sbt, List.flatMap_append, List.map_cons, List.flatten_cons, ← ih]
theorem sbt_cons (σ : Int → List Nd) (n : Nd) (t : List Nd) : sbt σ (n :: t) = asg σ n ++ sbt σ t := List.flatMap_cons
theorem Tr.sbt {σ : Int → List Nd} (hσ : TrS σ) : ∀ {d : Nat} {a : List Nd}, Tr d a → ∃ e, Tr e (sbt σ a)
  | 0, _, h => h.elim
  | d + 1, _, ⟨k, m, ks, h1, h2, h3⟩ => by
    subst h1
    rw [sbt_cons, asg, sbt_flatten]
    by_cases hk : k = 1
    · subst hk
      have hl : ks.length = 0 := by
        have h4 := h2
        unfold fmB at h4
        rw [if_pos (.inl rfl)] at h4
        have := (of_decide_eq_true h4).1
        dsimp only at this; omega
      obtain rfl := List.eq_nil_of_length_eq_zero hl
      obtain ⟨e, he⟩ := hσ m
      exact ⟨e, by simpa using he⟩
    · obtain ⟨e, he⟩ := trs_depth (ks.map (Go.Proofs.YtdfdjgolijckfaaDoor.sbt σ)) (fun x hx => by
        obtain ⟨y, hy, rfl⟩ := List.mem_map.1 hx
        exact (h3 y hy).sbt hσ)
      refine ⟨e + 1, k, m, ks.map (Go.Proofs.YtdfdjgolijckfaaDoor.sbt σ), ?_, ?_, he⟩
      · rw [if_neg hk, List.length_map]; rfl
      · rw [List.length_map]; exact h2
end Go.Proofs.YtdfdjgolijckfaaDoor
/- Match: what it answers for trees. -/
namespace Go.Proofs.YtdfdjgolijckfaaDoor
attribute [local irreducible] FU
theorem vCloneN (t : List Nd) (h : t.length ≤ 137438953472) : m_slices_Clone_L_api_TypeNode_api_TypeNode t = some t := by
  unfold m_slices_Clone_L_api_TypeNode_api_TypeNode
  rw [nilc_eq (fun e => by subst e; rfl), need_pos (by simp; omega)]; rfl
theorem eqS_loop (a b : List Nd) (hab : a.length = b.length) (hl : a.length ≤ 4611686018427387904) (K : Unit → Option Bool) : ∀ (m j n : Nat), j + m = a.length → m < n → m_slices_Equal_L_api_TypeNode_api_TypeNode_L2 a b K n (j : Int) = if a.drop j = b.drop j then K () else some false
  | 0, j, n, hj, hn => by
    obtain ⟨n, rfl⟩ : ∃ q, n = q + 1 := ⟨n - 1, by omega⟩
    rw [m_slices_Equal_L_api_TypeNode_api_TypeNode_L2, m_slices_Equal_L_api_TypeNode_api_TypeNode_B2, if_neg (by omega), if_pos (by rw [List.drop_of_length_le (by omega), List.drop_of_length_le (by omega)])]
  | m + 1, j, n, hj, hn => by
    obtain ⟨n, rfl⟩ : ∃ q, n = q + 1 := ⟨n - 1, by omega⟩
    have h1 : j < a.length := by omega
    have h2 : j < b.length := by omega
    rw [m_slices_Equal_L_api_TypeNode_api_TypeNode_L2, m_slices_Equal_L_api_TypeNode_api_TypeNode_B2, if_pos (by omega), need_pos (by omega), need_pos (by omega), gi_nat h1, gi_nat h2, List.drop_eq_getElem_cons h1, List.drop_eq_getElem_cons h2, i64s (by omega), eqS_loop a b hab hl K m (j + 1) n (by omega) (by omega)]
    by_cases e : a[j] = b[j]
    · rw [if_neg (fun h => h e)]
      simp only [e, List.cons.injEq, true_and]
    · rw [if_pos e, if_neg (fun h => e (List.cons.inj h).1)]
theorem vEqS (a b : List Nd) (hl : a.length ≤ 4611686018427387904) : m_slices_Equal_L_api_TypeNode_api_TypeNode a b = some (decide (a = b)) := by
  unfold m_slices_Equal_L_api_TypeNode_api_TypeNode
  by_cases h : a.length = b.length
  · rw [if_neg (by omega), jn_eq, show (0 : Int) = ((0 : Nat) : Int) from rfl, eqS_loop a b h hl _ a.length 0 FU (by omega) (by have := FU_ge; omega), List.drop_zero, List.drop_zero]
    by_cases e : a = b
    · rw [if_pos e, decide_eq_true e]
    · rw [if_neg e, decide_eq_false e]
  · rw [if_pos (by omega), decide_eq_false (fun e => h (by rw [e]))]
/-- What holds of the bindings so far. -/
def MInv (m : List Bd) : Prop := NdK m ∧ ∀ x ∈ m, (0 ≤ x.1 ∧ x.1 ≤ 1073741824) ∧ x.2.length ≤ 512 ∧ ∃ e, e ≤ 64 ∧ Tr e x.2
theorem MInv.put {m : List Bd} (h : MInv m) {v : Int} (hv : 0 ≤ v ∧ v ≤ 1073741824) {B : List Nd} {e : Nat} (hB : Tr e B) (he : e ≤ 64) (hl : B.length ≤ 512) : MInv (putL m v B) := by
  refine ⟨putL_nd h.1 _ _, fun x hx => ?_⟩
  have h1 := mem_lookL (putL_nd h.1 v B) (v := x.1) (x := x.2) hx
  rw [lookL_put] at h1
  split at h1
  · rename_i e1
    rw [← e1, ← Option.some.inj h1]
    exact ⟨hv, hl, e, he, hB⟩
  · exact h.2 x (lookL_mem h1)
end Go.Proofs.YtdfdjgolijckfaaDoor
/- Match of valid types; Canon; the law of Canon. -/
namespace Go.Proofs.YtdfdjgolijckfaaDoor
attribute [local irreducible] FU
/-! ### Canon -/
/-- The variables, each once, in order. -/
def vgo : List Int → List Nd → List Int
  | out, [] => out
  | out, n :: t => if n.1 = 1 ∧ n.2.1 ∉ out then vgo (out ++ [n.2.1]) t else vgo out t
abbrev vrs (t : List Nd) : List Int := vgo [] t
theorem vVars {t : List Nd} (hl : t.length ≤ 1000000) (K : List Int → Option (List Int)) : ∀ (u : List Nd) (j n : Nat) (out : List Int) (s : List (Int × Bool)), t.drop j = u → j ≤ t.length → u.length < n → out.length ≤ j → (∀ v, Option.getD (lookL s v) false = decide (v ∈ out)) →
    m_types_Vars_L2 t K n out s (j : Int) = K (vgo out u)
  | [], j, 0, _, _, _, _, h, _, _ => by simp at h
  | [], j, n + 1, out, s, hd, hj, _, _, _ => by
    have := congrArg List.length hd
    simp at this
    rw [m_types_Vars_L2, m_types_Vars_B2, if_neg (by omega)]; rfl
  | a :: u, j, 0, _, _, _, _, h, _, _ => by simp at h
  | a :: u, j, n + 1, out, s, hd, hj, hn, ho, hs => by
    have hlen := congrArg List.length hd
    simp at hlen
    have hjl : j < t.length := by omega
    have ha : t[j] = a ∧ t.drop (j + 1) = u := by rw [List.drop_eq_getElem_cons hjl] at hd; exact ⟨(List.cons.inj hd).1, (List.cons.inj hd).2⟩
    rw [m_types_Vars_L2, m_types_Vars_B2, if_pos (by omega)]
    simp only [jn_eq]
    rw [need_pos (by omega), gi_nat hjl, ha.1, hs, vgo, i64s (by omega)]
    by_cases h1 : a.1 = 1
    · by_cases h2 : a.2.1 ∈ out
      · rw [if_pos h1, decide_eq_true h2]
        simp only [Bool.not_true, Bool.false_eq_true, ↓reduceIte]
        rw [if_neg (fun h => h.2 h2)]
        exact vVars hl K u (j + 1) n out s ha.2 (by omega) (by simp at hn; omega) (by omega) hs
      · rw [if_pos h1, decide_eq_false h2]
        simp only [Bool.not_false, ↓reduceIte]
        rw [if_pos ⟨h1, h2⟩, need_pos (by simp; omega)]
        refine vVars hl K u (j + 1) n _ _ ha.2 (by omega) (by simp at hn; omega) (by simp; omega) (fun v => ?_)
        rw [lookL_put]
        by_cases e : a.2.1 = v
        · rw [if_pos e]; simp [e]
        · rw [if_neg e, hs]; simp; intro h; exact absurd h.symm e
    · rw [if_neg h1]
      simp only [Bool.false_eq_true, ↓reduceIte]
      rw [if_neg (fun h => h1 h.1)]
      exact vVars hl K u (j + 1) n out s ha.2 (by omega) (by simp at hn; omega) (by omega) hs
theorem vgo_mem : ∀ {t : List Nd} {out : List Int} {v : Int}, v ∈ vgo out t ↔ v ∈ out ∨ v ∈ vsN t
  | [], out, v => by simp [vgo, vsN]
  | n :: t, out, v => by
    rw [vgo, vsN]
    by_cases h1 : n.1 = 1
    · rw [if_pos h1]
      by_cases h2 : n.2.1 ∈ out
      · rw [if_neg (fun h => h.2 h2), vgo_mem, List.mem_cons]
        constructor
        · rintro (h | h)
          · exact .inl h
          · exact .inr (.inr h)
        · rintro (h | rfl | h)
          · exact .inl h
          · exact .inl h2
          · exact .inr h
      · rw [if_pos ⟨h1, h2⟩, vgo_mem, List.mem_append, List.mem_singleton, List.mem_cons, or_assoc]
    · rw [if_neg (fun h => h1 h.1), if_neg h1, vgo_mem]
theorem vgo_len : ∀ (t : List Nd) (out : List Int), (vgo out t).length ≤ out.length + t.length
  | [], out => by simp [vgo]
  | n :: t, out => by
    rw [vgo]
    split
    · have := vgo_len t (out ++ [n.2.1]); simp at *; omega
    · have := vgo_len t out; simp; omega
/-- The place in a list; -1: none. -/
def ix (vs : List Int) (v : Int) : Int := if v ∈ vs then (vs.idxOf v : Int) else -1
theorem vIndex (vs : List Int) (hl : vs.length ≤ 4611686018427387904) (v : Int) : m_slices_Index_L_int_int vs v = some (ix vs v) := by
  have go : ∀ (u : List Int) (j n : Nat), vs.drop j = u → j ≤ vs.length → u.length < n → m_slices_Index_L_int_int_L2 vs v (fun _ => some (-1)) n (j : Int) = some (if v ∈ u then ((j + u.idxOf v : Nat) : Int) else -1) := by
    intro u
    induction u with
    | nil =>
      intro j n hd hj hn
      obtain ⟨n, rfl⟩ : ∃ q, n = q + 1 := ⟨n - 1, by omega⟩
      have := congrArg List.length hd
      simp at this
      rw [m_slices_Index_L_int_int_L2, m_slices_Index_L_int_int_B2, if_neg (by omega)]; simp
    | cons a u ih =>
      intro j n hd hj hn
      obtain ⟨n, rfl⟩ : ∃ q, n = q + 1 := ⟨n - 1, by omega⟩
      have hlen := congrArg List.length hd
      simp at hlen
      have hjl : j < vs.length := by omega
      have ha : vs[j] = a ∧ vs.drop (j + 1) = u := by rw [List.drop_eq_getElem_cons hjl] at hd; exact ⟨(List.cons.inj hd).1, (List.cons.inj hd).2⟩
      rw [m_slices_Index_L_int_int_L2, m_slices_Index_L_int_int_B2, if_pos (by omega), need_pos (by omega), gi_nat hjl, ha.1]
      by_cases e : v = a
      · subst e; rw [if_pos rfl, if_pos List.mem_cons_self, List.idxOf_cons_self]; rfl
      · rw [if_neg e, i64s (by omega), ih (j + 1) n ha.2 (by omega) (by simp at hn; omega)]
        by_cases hm : v ∈ u
        · rw [if_pos hm, if_pos (List.mem_cons_of_mem _ hm), show (a :: u).idxOf v = u.idxOf v + 1 by rw [List.idxOf_cons, show (a == v) = false from by simp; exact fun h => e h.symm]; rfl]
          congr 2; omega
        · rw [if_neg hm, if_neg (fun h => (List.mem_cons.1 h).elim e hm)]
  unfold m_slices_Index_L_int_int ix
  rw [jn_eq, show (0 : Int) = ((0 : Nat) : Int) from rfl, go vs 0 FU rfl (Nat.zero_le _) (by have := FU_ge; omega), Nat.zero_add]
/-- A node, its variable renamed. -/
def ren (f : Int → Int) (n : Nd) : Nd := if n.1 = 1 then (1, f n.2.1, n.2.2) else n
def canR (t : List Nd) : List Nd := if vdB t = true then t.map (ren (ix (vrs t))) else []
theorem vCanonL (vs : List Int) (hvl : vs.length ≤ 512) (c : List Nd) (hl : c.length ≤ 512) (K : List Nd → Option (List Nd)) : ∀ (m j n : Nat), j + m = c.length → m < n →
    m_types_Canon_L2 vs c K n ((c.take j).map (ren (ix vs)) ++ c.drop j) (j : Int) = K (c.map (ren (ix vs)))
  | 0, j, n, hj, hn => by
    obtain ⟨n, rfl⟩ : ∃ q, n = q + 1 := ⟨n - 1, by omega⟩
    rw [m_types_Canon_L2, m_types_Canon_B2, if_neg (by omega), List.take_of_length_le (by omega), List.drop_of_length_le (by omega), List.append_nil]
  | m + 1, j, n, hj, hn => by
    obtain ⟨n, rfl⟩ : ∃ q, n = q + 1 := ⟨n - 1, by omega⟩
    have hjl : j < c.length := by omega
    have ih := vCanonL vs hvl c hl K m (j + 1) n (by omega) (by omega)
    have hlen : ((c.take j).map (ren (ix vs)) ++ c.drop j).length = c.length := by simp; omega
    have hl1 : ((c.take j).map (ren (ix vs))).length = j := by simp; omega
    have hg : gi ((c.take j).map (ren (ix vs)) ++ c.drop j) (j : Int) = c[j] := by
      rw [gi_nat (by omega), List.getElem_append_right (by omega)]
      simp only [hl1, Nat.sub_self, List.getElem_drop, Nat.add_zero]
    have hnext : (c.take (j + 1)).map (ren (ix vs)) ++ c.drop (j + 1) = (c.take j).map (ren (ix vs)) ++ ren (ix vs) c[j] :: c.drop (j + 1) := by
      rw [List.take_succ_eq_append_getElem hjl, List.map_append, List.append_assoc]; rfl
    rw [m_types_Canon_L2, m_types_Canon_B2, if_pos (by omega), jn_eq, need_pos (by rw [hlen]; omega), hg, i64s (by omega)]
    rw [hnext] at ih
    by_cases h1 : c[j].1 = 1
    · rw [if_pos h1, vIndex vs (by omega), bnd1_mk, need_pos (by rw [hlen]; omega), Int.toNat_natCast, List.set_append_right _ _ (by omega), hl1, Nat.sub_self, List.drop_eq_getElem_cons hjl, List.set_cons_zero]
      rw [show ((c[j].1, ix vs c[j].2.1, c[j].2.2) : Nd) = ren (ix vs) c[j] by unfold ren; rw [if_pos h1, h1]]
      exact ih
    · rw [if_neg h1]
      rw [show ren (ix vs) c[j] = c[j] by unfold ren; rw [if_neg h1], ← List.drop_eq_getElem_cons hjl] at ih
      exact ih
theorem vCanon (t : List Nd) : m_types_Canon t = some (canR t) := by
  unfold m_types_Canon canR
  rw [vValid, bnd1_mk]
  cases hv : vdB t with
  | false => simp
  | true =>
    have hl := vdB_len hv
    have h1 : m_types_Vars t = some (vrs t) := by
      unfold m_types_Vars
      rw [jn_eq, show (0 : Int) = ((0 : Nat) : Int) from rfl, vVars (by omega) _ t 0 FU [] [] rfl (Nat.zero_le _) (by have := FU_ge; omega) (by simp) (fun v => by simp [lookL])]
    have hvl : (vrs t).length ≤ t.length := by have := vgo_len t []; simp at this; exact this
    have h2 := vCanonL (vrs t) (by omega) t hl (fun x => some x) t.length 0 FU (by omega) (by have := FU_ge; omega)
    rw [List.take_zero, List.map_nil, List.nil_append, List.drop_zero] at h2
    rw [Bool.not_true, if_neg (by simp), h1, bnd1_mk, vCloneN t (by omega), bnd1_mk, jn_eq, if_pos rfl]
    exact h2
end Go.Proofs.YtdfdjgolijckfaaDoor
/- The law of Canon. -/
namespace Go.Proofs.YtdfdjgolijckfaaDoor
attribute [local irreducible] FU
theorem vs_of_mem : ∀ {t : List Nd} {n : Nd}, n ∈ t → n.1 = 1 → n.2.1 ∈ vsN t
  | a :: t, n, h, h1 => by
    rw [vsN]
    rcases List.mem_cons.1 h with rfl | h
    · rw [if_pos h1]; exact List.mem_cons_self
    · have := vs_of_mem h h1
      split
      · exact List.mem_cons_of_mem _ this
      · exact this
theorem vrs_mem {t : List Nd} {v : Int} : v ∈ vrs t ↔ v ∈ vsN t := by rw [vrs, vgo_mem]; simp
theorem var_kids {n : Nd} (h : fmB n = true) (h1 : n.1 = 1) : n.2.2 = 0 ∧ 0 ≤ n.2.1 ∧ n.2.1 ≤ 1073741824 := by
  unfold fmB at h
  rw [if_pos (.inl h1)] at h
  exact of_decide_eq_true h
theorem canR_len (t : List Nd) : (canR t).length ≤ 512 := by
  unfold canR
  split
  · rename_i h; rw [List.length_map]; exact vdB_len h
  · simp
end Go.Proofs.YtdfdjgolijckfaaDoor
/- Match of the reference. -/
namespace Go.Proofs.YtdfdjgolijckfaaDoor
attribute [local irreducible] FU
theorem flat_ge {d : Nat} : ∀ {ks : List (List Nd)}, (∀ x ∈ ks, Tr d x) → ks.length ≤ ks.flatten.length
  | [], _ => by simp
  | x :: ks, h => by
    have h1 := (h x List.mem_cons_self).pos
    have h2 := flat_ge (ks := ks) (fun y hy => h y (List.mem_cons_of_mem _ hy))
    rw [List.flatten_cons, List.length_append, List.length_cons]; omega
theorem endF {d : Nat} (hT : ∀ (A pre post : List Nd) (r n : Nat) (K : Int → Option Int), Tr d A → (pre ++ (A ++ post)).length ≤ 512 → r + A.length ≤ 1000000 → m_ref6_end_L2 (pre ++ (A ++ post)) K (n + A.length) (pre.length : Int) ((r + 1 : Nat) : Int) = m_ref6_end_L2 (pre ++ (A ++ post)) K n ((pre.length + A.length : Nat) : Int) (r : Int)) :
    ∀ (ks : List (List Nd)) (pre post : List Nd) (r n : Nat) (K : Int → Option Int), (∀ x ∈ ks, Tr d x) → (pre ++ (ks.flatten ++ post)).length ≤ 512 → r + ks.flatten.length ≤ 1000000 → m_ref6_end_L2 (pre ++ (ks.flatten ++ post)) K (n + ks.flatten.length) (pre.length : Int) ((r + ks.length : Nat) : Int) = m_ref6_end_L2 (pre ++ (ks.flatten ++ post)) K n ((pre.length + ks.flatten.length : Nat) : Int) (r : Int)
  | [], pre, post, r, n, K, _, _, _ => by simp
  | x :: ks, pre, post, r, n, K, h, hl, hr => by
    have hx := h x List.mem_cons_self
    have hks := fun y hy => h y (List.mem_cons_of_mem _ hy)
    have hg := flat_ge hks
    rw [List.flatten_cons, List.length_append] at hr
    have h1 := hT x pre (ks.flatten ++ post) (r + ks.length) (n + ks.flatten.length) K hx (by simpa using hl) (by omega)
    have h2 := endF hT ks (pre ++ x) post r n K hks (by simpa using hl) (by omega)
    simp only [List.append_assoc, List.length_append] at h2
    simp only [List.flatten_cons, List.append_assoc, List.length_append, List.length_cons]
    rw [show n + (x.length + ks.flatten.length) = n + ks.flatten.length + x.length by omega, show r + (ks.length + 1) = r + ks.length + 1 by omega, h1, h2]
    congr 1; omega
theorem endT : ∀ (d : Nat) (A pre post : List Nd) (r n : Nat) (K : Int → Option Int), Tr d A → (pre ++ (A ++ post)).length ≤ 512 → r + A.length ≤ 1000000 → m_ref6_end_L2 (pre ++ (A ++ post)) K (n + A.length) (pre.length : Int) ((r + 1 : Nat) : Int) = m_ref6_end_L2 (pre ++ (A ++ post)) K n ((pre.length + A.length : Nat) : Int) (r : Int)
  | 0, _, _, _, _, _, _, h, _, _ => h.elim
  | d + 1, A, pre, post, r, n, K, ⟨k, m, ks, hA, hf, hks⟩, hl, hr => by
    subst hA
    have hg := flat_ge hks
    have hk := fm_kids hf
    dsimp only at hk
    have h2 := endF (endT d) ks (pre ++ [(k, m, (ks.length : Int))]) post r n K hks (by simpa using hl) (by rw [List.length_cons] at hr; omega)
    simp only [List.append_assoc, List.length_append, List.length_cons, List.length_nil, List.singleton_append, Nat.zero_add] at h2
    simp only [List.length_append, List.length_cons] at hl hr
    rw [List.length_cons, show n + (ks.flatten.length + 1) = n + ks.flatten.length + 1 by omega, m_ref6_end_L2, m_ref6_end_B2, if_pos (by omega), need_pos (by simp; omega)]
    have hgi : gi (pre ++ ((k, m, (ks.length : Int)) :: ks.flatten ++ post)) (pre.length : Int) = (k, m, (ks.length : Int)) := by
      rw [gi_nat (by simp)]
      simp
    rw [hgi]
    dsimp only
    rw [i64_id (x := (ks.length : Int) - 1) (by omega), i64s (by omega), i64_id (by omega), show (((r + 1 : Nat) : Int) + ((ks.length : Int) - 1)) = ((r + ks.length : Nat) : Int) by omega]
    rw [List.cons_append, h2]
    congr 1; omega
theorem wEnd {d : Nat} {A : List Nd} (pre post : List Nd) (h : Tr d A) (hl : (pre ++ (A ++ post)).length ≤ 512) : m_ref6_end (pre ++ (A ++ post)) (pre.length : Int) = some ((pre.length + A.length : Nat) : Int) := by
  have hl' := hl
  simp only [List.length_append] at hl'
  obtain ⟨n, hn⟩ := fuk (A.length + 1) (by omega)
  have := endT d A pre post 0 (n + 1) (fun x => some x) h hl (by omega)
  unfold m_ref6_end
  rw [jn_eq, hn, show n + (A.length + 1) = n + 1 + A.length by omega]
  rw [show ((0 + 1 : Nat) : Int) = 1 from rfl] at this
  rw [this, m_ref6_end_L2, m_ref6_end_B2, if_neg (by omega)]
theorem wPartsL {d : Nat} {t : List Nd} (ht : t.length ≤ 512) {c : Nat} (hc : (gi t 0).2.2 = (c : Int)) (K : List (List Nd) → Option (List (List Nd))) : ∀ (ks : List (List Nd)) (pre : List Nd) (acc : List (List Nd)) (j n : Nat), t = pre ++ ks.flatten → (∀ x ∈ ks, Tr d x) → j + ks.length = c → ks.length < n → 0 < t.length → acc.length ≤ j → c ≤ 9 → m_ref6_parts_L2 t K n acc (pre.length : Int) (j : Int) = K (acc ++ ks)
  | [], pre, acc, j, n, he, _, hj, hn, h0, _, _ => by
    obtain ⟨n, rfl⟩ : ∃ q, n = q + 1 := ⟨n - 1, by omega⟩
    simp only [List.length_nil] at hj
    rw [m_ref6_parts_L2, m_ref6_parts_B2, need_pos (by omega), hc, if_neg (by omega), List.append_nil]
  | x :: ks, pre, acc, j, n, he, hks, hj, hn, h0, ha, hc9 => by
    obtain ⟨n, rfl⟩ : ∃ q, n = q + 1 := ⟨n - 1, by omega⟩
    simp only [List.length_cons] at hj hn
    have hx := hks x List.mem_cons_self
    have he' : t = pre ++ (x ++ ks.flatten) := by rw [he, List.flatten_cons]
    have hE : m_ref6_end t (pre.length : Int) = some ((pre.length + x.length : Nat) : Int) := by
      rw [he']; exact wEnd pre ks.flatten hx (by rw [← he']; exact ht)
    have hlt : t.length = pre.length + (x.length + ks.flatten.length) := by rw [he']; simp
    have hcut : List.take (Int.toNat ((pre.length + x.length : Nat) : Int) - Int.toNat (pre.length : Int)) (List.drop (Int.toNat (pre.length : Int)) t) = x := by
      rw [Int.toNat_natCast, Int.toNat_natCast, he', List.drop_left' rfl, Nat.add_sub_cancel_left, List.take_left' rfl]
    rw [m_ref6_parts_L2, m_ref6_parts_B2, need_pos (by omega), hc, if_pos (by omega), hE, bnd1_mk, need_pos (by omega), hcut, need_pos (by simp; omega), i64s (by omega)]
    have ih := wPartsL ht hc K ks (pre ++ x) (acc ++ [x]) (j + 1) n (by rw [he']; simp) (fun y hy => hks y (List.mem_cons_of_mem _ hy)) (by omega) (by omega) h0 (by simp; omega) hc9
    rw [List.length_append] at ih
    rw [ih]; simp
theorem wParts {d : Nat} {k m : Int} {ks : List (List Nd)} (hks : ∀ x ∈ ks, Tr d x) (hf : fmB (k, m, (ks.length : Int)) = true) (hl : ((k, m, (ks.length : Int)) :: ks.flatten).length ≤ 512) : m_ref6_parts ((k, m, (ks.length : Int)) :: ks.flatten) = some ks := by
  have hk := fm_kids hf
  dsimp only at hk
  have := wPartsL (d := d) hl (c := ks.length) rfl (fun x => some x) ks [(k, m, (ks.length : Int))] [] 0 FU rfl hks (by omega) (by have := FU_ge; omega) (by simp) (by simp) (by omega)
  unfold m_ref6_parts
  rw [jn_eq]
  exact this
theorem eqR_loop (a b : List Nd) (hab : a.length = b.length) (hl : a.length ≤ 4611686018427387904) (K : Unit → Option Bool) : ∀ (m j n : Nat), j + m = a.length → m < n → m_ref6_Equal_L2 a b K n (j : Int) = if a.drop j = b.drop j then K () else some false
  | 0, j, n, hj, hn => by
    obtain ⟨n, rfl⟩ : ∃ q, n = q + 1 := ⟨n - 1, by omega⟩
    rw [m_ref6_Equal_L2, m_ref6_Equal_B2, if_neg (by omega), if_pos (by rw [List.drop_of_length_le (by omega), List.drop_of_length_le (by omega)])]
  | m + 1, j, n, hj, hn => by
    obtain ⟨n, rfl⟩ : ∃ q, n = q + 1 := ⟨n - 1, by omega⟩
    have h1 : j < a.length := by omega
    have h2 : j < b.length := by omega
    rw [m_ref6_Equal_L2, m_ref6_Equal_B2, if_pos (by omega), need_pos (by omega), need_pos (by omega), gi_nat h1, gi_nat h2, List.drop_eq_getElem_cons h1, List.drop_eq_getElem_cons h2, i64s (by omega), eqR_loop a b hab hl K m (j + 1) n (by omega) (by omega)]
    by_cases e : a[j] = b[j]
    · rw [if_neg (fun h => h e)]
      simp only [e, List.cons.injEq, true_and]
    · rw [if_pos e, if_neg (fun h => e (List.cons.inj h).1)]
theorem wEqual (a b : List Nd) (hl : a.length ≤ 4611686018427387904) : m_ref6_Equal a b = some (decide (a = b)) := by
  unfold m_ref6_Equal
  by_cases h : a.length = b.length
  · rw [if_neg (by omega), jn_eq, show (0 : Int) = ((0 : Nat) : Int) from rfl, eqR_loop a b h hl _ a.length 0 FU (by omega) (by have := FU_ge; omega), List.drop_zero, List.drop_zero]
    by_cases e : a = b
    · rw [if_pos e, decide_eq_true e]
    · rw [if_neg e, decide_eq_false e]
  · rw [if_pos (by omega), decide_eq_false (fun e => h (by rw [e]))]
end Go.Proofs.YtdfdjgolijckfaaDoor
/- Match, both ways; the law of Match. -/
namespace Go.Proofs.YtdfdjgolijckfaaDoor
attribute [local irreducible] FU
end Go.Proofs.YtdfdjgolijckfaaDoor
/- The law of Match. -/
namespace Go.Proofs.YtdfdjgolijckfaaDoor
attribute [local irreducible] FU
theorem fm_congr {f g : Nd → List Nd} : ∀ {l : List Nd}, (∀ n ∈ l, f n = g n) → l.flatMap f = l.flatMap g
  | [], _ => rfl
  | n :: l, h => by rw [List.flatMap_cons, List.flatMap_cons, h n List.mem_cons_self, fm_congr (fun m hm => h m (List.mem_cons_of_mem _ hm))]
end Go.Proofs.YtdfdjgolijckfaaDoor
/- The heap of a type: what Read makes. -/
namespace Go.Proofs.YtdfdjgolijckfaaDoor
attribute [local irreducible] FU
abbrev Hn := Int × Int × (List Int) × Int
/-- A heap as Read makes it: no node is bound, children come first, each variable is one node. -/
structure RInv (H : List Hn) (m : List (Int × Int)) : Prop where
  free : ∀ i (h : i < H.length), H[i].2.2.2 = -1
  kids : ∀ i (h : i < H.length), ∀ k ∈ H[i].2.2.1, 0 ≤ k ∧ k < (i : Int)
  form : ∀ i (h : i < H.length), fmB (H[i].1, H[i].2.1, (H[i].2.2.1.length : Int)) = true
  vars : ∀ i (h : i < H.length), H[i].1 = 1 → lookL m H[i].2.1 = some (i : Int)
  look : ∀ v k, lookL m v = some k → ∃ i : Nat, k = (i : Int) ∧ ∃ h : i < H.length, H[i] = (1, v, [], -1)
  nd : NdK m
/-- The trees that stand for the nodes of a heap. -/
def Sol (H : List Hn) (val : Int → List Nd) : Prop := ∀ i (h : i < H.length),
  if H[i].2.2.2 ≠ -1 then val (i : Int) = val H[i].2.2.2
  else if H[i].1 = 1 then ∃ e, Tr e (val (i : Int))
  else val (i : Int) = (H[i].1, H[i].2.1, (H[i].2.2.1.length : Int)) :: (H[i].2.2.1.map val).flatten
theorem Sol.pre {H T : List Hn} {val : Int → List Nd} (h : Sol (H ++ T) val) : Sol H val := fun i hi => by
  have := h i (by rw [List.length_append]; omega)
  rw [List.getElem_append_left hi] at this
  exact this
theorem RInv.var {H : List Hn} {m : List (Int × Int)} (h : RInv H m) {v : Int} (hv : fmB (1, v, 0) = true) (hl : lookL m v = none) : RInv (H ++ [(1, v, [], -1)]) (putL m v (H.length : Int)) := by
  have hg : ∀ i (hi : i < (H ++ [((1, v, [], -1) : Hn)]).length), (∃ h' : i < H.length, (H ++ [((1, v, [], -1) : Hn)])[i] = H[i]) ∨ (i = H.length ∧ (H ++ [((1, v, [], -1) : Hn)])[i] = (1, v, [], -1)) := fun i hi => by
    rw [List.length_append, List.length_singleton] at hi
    rcases Nat.lt_or_ge i H.length with h1 | h1
    · exact .inl ⟨h1, List.getElem_append_left h1⟩
    · have : i = H.length := by omega
      subst this
      exact .inr ⟨rfl, by rw [List.getElem_append_right (Nat.le_refl _)]; simp⟩
  refine ⟨fun i hi => ?_, fun i hi => ?_, fun i hi => ?_, fun i hi => ?_, fun w k hk => ?_, putL_nd h.nd _ _⟩
  · rcases hg i hi with ⟨h1, e⟩ | ⟨_, e⟩ <;> rw [e]
    exact h.free i h1
  · rcases hg i hi with ⟨h1, e⟩ | ⟨_, e⟩ <;> rw [e]
    · exact h.kids i h1
    · simp
  · rcases hg i hi with ⟨h1, e⟩ | ⟨_, e⟩ <;> rw [e]
    · exact h.form i h1
    · exact hv
  · rcases hg i hi with ⟨h1, e⟩ | ⟨h1, e⟩ <;> rw [e]
    · intro h2
      have h3 := h.vars i h1 h2
      rw [lookL_put, if_neg (fun e2 => by rw [← e2, hl] at h3; cases h3)]; exact h3
    · intro _
      rw [lookL_put, if_pos rfl, h1]
  · rw [lookL_put] at hk
    by_cases e : v = w
    · rw [if_pos e] at hk
      subst e
      exact ⟨H.length, (Option.some.inj hk).symm, by simp, by simp⟩
    · rw [if_neg e] at hk
      obtain ⟨i, h1, h2, h3⟩ := h.look w k hk
      exact ⟨i, h1, by rw [List.length_append]; omega, by rw [List.getElem_append_left h2]; exact h3⟩
theorem RInv.node {H : List Hn} {m : List (Int × Int)} (h : RInv H m) {k mm : Int} {ks : List Int} (hf : fmB (k, mm, (ks.length : Int)) = true) (hk : ¬ k = 1) (hks : ∀ x ∈ ks, 0 ≤ x ∧ x < (H.length : Int)) : RInv (H ++ [(k, mm, ks, -1)]) m := by
  have hg : ∀ i (hi : i < (H ++ [((k, mm, ks, -1) : Hn)]).length), (∃ h' : i < H.length, (H ++ [((k, mm, ks, -1) : Hn)])[i] = H[i]) ∨ (i = H.length ∧ (H ++ [((k, mm, ks, -1) : Hn)])[i] = (k, mm, ks, -1)) := fun i hi => by
    rw [List.length_append, List.length_singleton] at hi
    rcases Nat.lt_or_ge i H.length with h1 | h1
    · exact .inl ⟨h1, List.getElem_append_left h1⟩
    · have : i = H.length := by omega
      subst this
      exact .inr ⟨rfl, by rw [List.getElem_append_right (Nat.le_refl _)]; simp⟩
  refine ⟨fun i hi => ?_, fun i hi => ?_, fun i hi => ?_, fun i hi => ?_, fun w j hj => ?_, h.nd⟩
  · rcases hg i hi with ⟨h1, e⟩ | ⟨_, e⟩ <;> rw [e]
    exact h.free i h1
  · rcases hg i hi with ⟨h1, e⟩ | ⟨h1, e⟩ <;> rw [e]
    · exact h.kids i h1
    · rw [h1]; exact hks
  · rcases hg i hi with ⟨h1, e⟩ | ⟨_, e⟩ <;> rw [e]
    · exact h.form i h1
    · exact hf
  · rcases hg i hi with ⟨h1, e⟩ | ⟨h1, e⟩ <;> rw [e]
    · exact h.vars i h1
    · intro h2; exact absurd h2 hk
  · obtain ⟨i, h1, h2, h3⟩ := h.look w j hj
    exact ⟨i, h1, by rw [List.length_append]; omega, by rw [List.getElem_append_left h2]; exact h3⟩
end Go.Proofs.YtdfdjgolijckfaaDoor
/- Heaps with bound variables: Find. -/
namespace Go.Proofs.YtdfdjgolijckfaaDoor
attribute [local irreducible] FU
/-- An order of the nodes: what a node leads to comes lower. -/
def Rk (H : List Hn) (rk : Int → Nat) : Prop := ∀ i (h : i < H.length), (H[i].2.2.2 ≠ -1 → rk H[i].2.2.2 < rk (i : Int)) ∧ ∀ k ∈ H[i].2.2.1, rk k < rk (i : Int)
structure HInv (H : List Hn) : Prop where
  bnd : ∀ i (h : i < H.length), H[i].2.2.2 = -1 ∨ (0 ≤ H[i].2.2.2 ∧ H[i].2.2.2 < (H.length : Int) ∧ H[i].1 = 1)
  kids : ∀ i (h : i < H.length), ∀ k ∈ H[i].2.2.1, 0 ≤ k ∧ k < (H.length : Int)
  form : ∀ i (h : i < H.length), fmB (H[i].1, H[i].2.1, (H[i].2.2.1.length : Int)) = true
  acyc : ∃ rk, Rk H rk
/-- A rank that is at most the number of nodes. -/
theorem rank_small {H : List Hn} (h : HInv H) : ∃ rk, Rk H rk ∧ ∀ x, rk x ≤ H.length := by
  obtain ⟨rk, hr⟩ := h.acyc
  have hlt : ∀ x y : Int, (0 ≤ y ∧ y < (H.length : Int)) → rk y < rk x → (List.range H.length).countP (fun j : Nat => decide (rk (j : Int) < rk y)) < (List.range H.length).countP (fun j : Nat => decide (rk (j : Int) < rk x)) := fun x y hy hxy => by
    have hmem : y.toNat ∈ List.range H.length := by rw [List.mem_range]; omega
    obtain ⟨a, b, hab⟩ := List.append_of_mem hmem
    rw [hab, List.countP_append, List.countP_append, List.countP_cons, List.countP_cons]
    have e : ((y.toNat : Nat) : Int) = y := by omega
    have h1 : ∀ l : List Nat, l.countP (fun j : Nat => decide (rk (j : Int) < rk y)) ≤ l.countP (fun j : Nat => decide (rk (j : Int) < rk x)) := fun l => List.countP_mono_left (fun j _ hj => by
      have := of_decide_eq_true hj
      exact decide_eq_true (by omega))
    have := h1 a
    have := h1 b
    rw [e, if_neg (by simp), if_pos (decide_eq_true hxy)]
    omega
  refine ⟨fun x => (List.range H.length).countP (fun j : Nat => decide (rk (j : Int) < rk x)), fun i hi => ⟨fun hn => ?_, fun k hk => ?_⟩, fun x => ?_⟩
  · rcases h.bnd i hi with h1 | h1
    · exact absurd h1 hn
    · exact hlt _ _ ⟨h1.1, h1.2.1⟩ ((hr i hi).1 hn)
  · exact hlt _ _ (h.kids i hi k hk) ((hr i hi).2 k hk)
  · have := List.countP_le_length (p := fun j => decide (rk ((j : Nat) : Int) < rk x)) (l := List.range H.length)
    rw [List.length_range] at this
    exact this
/-- Every assignment of trees to the variables solves a heap as Read makes it. -/
theorem sol_ex {σ : Int → List Nd} (hσ : TrS σ) : ∀ (n : Nat) (H : List Hn), H.length = n → (∀ i (h : i < H.length), H[i].2.2.2 = -1) → (∀ i (h : i < H.length), ∀ k ∈ H[i].2.2.1, 0 ≤ k ∧ k < (i : Int)) → ∃ val, Sol H val ∧ ∀ i (h : i < H.length), H[i].1 = 1 → val (i : Int) = σ H[i].2.1
  | 0, H, hl, _, _ => by
    obtain rfl := List.eq_nil_of_length_eq_zero hl
    exact ⟨fun _ => [], fun i hi => by simp at hi, fun i hi => by simp at hi⟩
  | n + 1, H, hl, hf, hk => by
    obtain ⟨G, x, rfl⟩ : ∃ G x, H = G ++ [x] := by
      rcases List.eq_nil_or_concat H with rfl | ⟨G, x, h⟩
      · simp at hl
      · exact ⟨G, x, by rw [h, List.concat_eq_append]⟩
    have hG : G.length = n := by simpa using hl
    have hgi : ∀ i (h : i < G.length), (G ++ [x])[i]'(by rw [List.length_append]; omega) = G[i] := fun i h => List.getElem_append_left h
    have hgx : (G ++ [x])[G.length]'(by simp) = x := by rw [List.getElem_append_right (Nat.le_refl _)]; simp
    obtain ⟨val, h1, h2⟩ := sol_ex hσ n G hG (fun i h => by rw [← hgi i h]; exact hf i _) (fun i h k hkk => hk i (by rw [List.length_append]; omega) k (by rw [hgi i h]; exact hkk))
    have hx0 : x.2.2.2 = -1 := by rw [← hgx]; exact hf _ _
    have hxk : ∀ k ∈ x.2.2.1, 0 ≤ k ∧ k < (G.length : Int) := fun k hkk => hk G.length (by simp) k (by rw [hgx]; exact hkk)
    let w : List Nd := if x.1 = 1 then σ x.2.1 else (x.1, x.2.1, (x.2.2.1.length : Int)) :: (x.2.2.1.map val).flatten
    have hold : ∀ k : Int, k ≠ (G.length : Int) → (fun k : Int => if k = (G.length : Int) then w else val k) k = val k := fun k hne => if_neg hne
    have hmap : ∀ l : List Int, (∀ k ∈ l, k ≠ (G.length : Int)) → l.map (fun k : Int => if k = (G.length : Int) then w else val k) = l.map val := fun l hl => List.map_congr_left (fun k hkk => hold k (hl k hkk))
    refine ⟨fun k => if k = (G.length : Int) then w else val k, fun i hi => ?_, fun i hi hv => ?_⟩
    · rw [hf i hi, if_neg (by simp)]
      rcases Nat.lt_or_ge i G.length with h3 | h3
      · have h4 := h1 i h3
        have h5 : G[i].2.2.2 = -1 := by rw [← hgi i h3]; exact hf i hi
        rw [h5, if_neg (by simp)] at h4
        rw [hgi i h3, hold _ (by omega), hmap _ (fun k hkk => by have := hk i hi k (by rw [hgi i h3]; exact hkk); omega)]
        exact h4
      · obtain rfl : i = G.length := by rw [List.length_append, List.length_singleton] at hi; omega
        rw [hgx, hmap _ (fun k hkk => by have := hxk k hkk; omega)]
        dsimp only
        rw [if_pos rfl]
        by_cases hx1 : x.1 = 1
        · rw [if_pos hx1]
          show ∃ e, Tr e (if x.1 = 1 then σ x.2.1 else _)
          rw [if_pos hx1]; exact hσ _
        · rw [if_neg hx1]
          show (if x.1 = 1 then σ x.2.1 else _) = _
          rw [if_neg hx1]
    · rcases Nat.lt_or_ge i G.length with h3 | h3
      · rw [hgi i h3] at hv ⊢
        dsimp only
        rw [if_neg (by omega)]
        exact h2 i h3 hv
      · obtain rfl : i = G.length := by rw [List.length_append, List.length_singleton] at hi; omega
        rw [hgx] at hv ⊢
        dsimp only
        rw [if_pos rfl]
        show (if x.1 = 1 then σ x.2.1 else _) = _
        rw [if_pos hv]
end Go.Proofs.YtdfdjgolijckfaaDoor
/- Occurs: what it answers. -/
namespace Go.Proofs.YtdfdjgolijckfaaDoor
attribute [local irreducible] FU
/-- y is the unbound node to which x leads. -/
def Root (H : List Hn) (x : Int) (y : Nat) : Prop := m_terms_Term_Find x H = some ((y : Int), H)
/-- v is met below x. -/
inductive Reach (H : List Hn) (v : Nat) : Int → Prop
  | here {x : Int} (h : Root H x v) : Reach H v x
  | step {x : Int} {y : Nat} {k : Int} (h : Root H x y) (hy : y < H.length) (hk : k ∈ (gi H (y : Int)).2.2.1) (hr : Reach H v k) : Reach H v x
end Go.Proofs.YtdfdjgolijckfaaDoor
/- Occurs: the search. -/
namespace Go.Proofs.YtdfdjgolijckfaaDoor
attribute [local irreducible] FU
def Mk (s : List (Int × Bool)) (y : Nat) : Prop := Option.getD (lookL s (y : Int)) false = true
/-- The search below t has met nothing: what it has marked is closed. -/
structure Cl (H : List Hn) (v : Nat) (s s' : List (Int × Bool)) : Prop where
  mono : ∀ y, Mk s y → Mk s' y
  clo : ∀ y, Mk s' y → Mk s y ∨ (y ≠ v ∧ y < H.length ∧ ∀ k ∈ (gi H (y : Int)).2.2.1, ∃ z, Root H k z ∧ Mk s' z)
theorem Cl.trans {H : List Hn} {v : Nat} {a b c : List (Int × Bool)} (h : Cl H v a b) (k : Cl H v b c) : Cl H v a c :=
  ⟨fun y hy => k.mono y (h.mono y hy), fun y hy => by
    rcases k.clo y hy with h1 | h1
    · rcases h.clo y h1 with h2 | ⟨h2, h3, h4⟩
      · exact .inl h2
      · exact .inr ⟨h2, h3, fun x hx => by obtain ⟨z, z1, z2⟩ := h4 x hx; exact ⟨z, z1, k.mono z z2⟩⟩
    · exact .inr h1⟩
end Go.Proofs.YtdfdjgolijckfaaDoor
/- After a search that has met nothing: a variable may be bound. -/
namespace Go.Proofs.YtdfdjgolijckfaaDoor
attribute [local irreducible] FU
end Go.Proofs.YtdfdjgolijckfaaDoor
/- Binding a variable. -/
namespace Go.Proofs.YtdfdjgolijckfaaDoor
attribute [local irreducible] FU
/-- The heap with node a bound to b. -/
def bdH (H : List Hn) (a : Nat) (b : Int) : List Hn := H.set a ((gi H (a : Int)).1, (gi H (a : Int)).2.1, (gi H (a : Int)).2.2.1, b)
theorem bnd_len (H : List Hn) (a : Nat) (b : Int) : (bdH H a b).length = H.length := by unfold bdH; rw [List.length_set]
theorem bnd_get {H : List Hn} {a : Nat} {b : Int} {i : Nat} (h : i < H.length) : (bdH H a b)[i]'(by rw [bnd_len]; exact h) = if i = a then (H[i].1, H[i].2.1, H[i].2.2.1, b) else H[i] := by
  unfold bdH
  rw [List.getElem_set]
  by_cases e : a = i
  · subst e; rw [if_pos rfl, if_pos rfl, gi_nat h]
  · rw [if_neg e, if_neg (fun h => e h.symm)]
/-- What stands for a node is a tree. -/
theorem sol_tr {H : List Hn} (hi : HInv H) {rk : Int → Nat} (hr : Rk H rk) {val : Int → List Nd} (hS : Sol H val) : ∀ (n : Nat) (i : Nat), rk (i : Int) < n → i < H.length → ∃ e, Tr e (val (i : Int))
  | 0, _, h, _ => by omega
  | n + 1, i, hn, hil => by
    have h1 := hS i hil
    by_cases hb : H[i].2.2.2 = -1
    · rw [if_neg (fun h => h hb)] at h1
      by_cases hv : H[i].1 = 1
      · rw [if_pos hv] at h1; exact h1
      · rw [if_neg hv] at h1
        obtain ⟨e, he⟩ := trs_depth (H[i].2.2.1.map val) (fun x hx => by
          obtain ⟨k, hk, rfl⟩ := List.mem_map.1 hx
          have h2 := hi.kids i hil k hk
          have h3 := (hr i hil).2 k hk
          obtain ⟨j, rfl⟩ : ∃ j : Nat, k = (j : Int) := ⟨k.toNat, by omega⟩
          exact sol_tr hi hr hS n j (by omega) (by omega))
        refine ⟨e + 1, H[i].1, H[i].2.1, H[i].2.2.1.map val, ?_, ?_, he⟩
        · rw [h1, List.length_map]
        · rw [List.length_map]; exact hi.form i hil
    · rw [if_pos hb] at h1
      rcases hi.bnd i hil with h2 | ⟨h2, h3, _⟩
      · exact absurd h2 hb
      · have h4 := (hr i hil).1 hb
        obtain ⟨j, hj⟩ : ∃ j : Nat, H[i].2.2.2 = (j : Int) := ⟨H[i].2.2.2.toNat, by omega⟩
        rw [hj] at h1 h3 h4
        rw [h1]
        exact sol_tr hi hr hS n j (by omega) (by omega)
/-- Solutions of the heap after a binding. -/
theorem bnd_sol {H : List Hn} (hi : HInv H) {a : Nat} (ha : a < H.length) (hf : H[a].2.2.2 = -1) (hv : H[a].1 = 1) {b : Nat} (hb : b < H.length) {val : Int → List Nd} (hT : ∃ e, Tr e (val (b : Int))) : Sol (bdH H a (b : Int)) val ↔ Sol H val ∧ val (a : Int) = val (b : Int) := by
  constructor
  · intro h
    have hab : val (a : Int) = val (b : Int) := by
      have := h a (by rw [bnd_len]; exact ha)
      rw [bnd_get ha, if_pos rfl] at this
      dsimp only at this
      rw [if_pos (by omega)] at this
      exact this
    refine ⟨fun i hil => ?_, hab⟩
    have h1 := h i (by rw [bnd_len]; exact hil)
    rw [bnd_get hil] at h1
    by_cases e : i = a
    · subst e
      rw [hf, if_neg (by simp), if_pos hv, hab]; exact hT
    · rw [if_neg e] at h1; exact h1
  · rintro ⟨h, hab⟩ i hil
    rw [bnd_len] at hil
    rw [bnd_get hil]
    by_cases e : i = a
    · subst e
      rw [if_pos rfl]
      dsimp only
      rw [if_pos (by omega)]; exact hab
    · rw [if_neg e]; exact h i hil
end Go.Proofs.YtdfdjgolijckfaaDoor
/- After a binding the heap is as it must be. -/
namespace Go.Proofs.YtdfdjgolijckfaaDoor
attribute [local irreducible] FU
theorem root_self {H : List Hn} {i : Nat} (hil : i < H.length) (hb : H[i].2.2.2 = -1) : Root H (i : Int) i := by
  obtain ⟨n, hn⟩ := fuk 1 (by omega)
  unfold Root m_terms_Term_Find
  rw [jn_eq, hn, m_terms_Term_Find_L2, m_terms_Term_Find_B2, need_pos (by omega), gi_nat hil, if_neg (fun h => h hb)]
theorem find_fuel {H : List Hn} (hi : HInv H) {rk : Int → Nat} (hr : Rk H rk) (K : Int → Option (Int × List Hn)) : ∀ (n n' : Nat) (x : Int), rk x < n → rk x < n' → 0 ≤ x → x < (H.length : Int) → m_terms_Term_Find_L2 H K n x = m_terms_Term_Find_L2 H K n' x
  | 0, _, _, h, _, _, _ => by omega
  | n + 1, 0, _, _, h, _, _ => by omega
  | n + 1, n' + 1, x, h, h', h0, h1 => by
    obtain ⟨i, rfl⟩ : ∃ i : Nat, x = (i : Int) := ⟨x.toNat, by omega⟩
    have hil : i < H.length := by omega
    rw [m_terms_Term_Find_L2, m_terms_Term_Find_B2, m_terms_Term_Find_L2, m_terms_Term_Find_B2, gi_nat hil]
    by_cases hb : H[i].2.2.2 = -1
    · rw [if_neg (fun h => h hb), if_neg (fun h => h hb)]
    · rw [if_pos hb, if_pos hb]
      rcases hi.bnd i hil with h2 | ⟨h2, h3, _⟩
      · exact absurd h2 hb
      · have hlt := (hr i hil).1 hb
        rw [find_fuel hi hr K n n' H[i].2.2.2 (by omega) (by omega) h2 h3]
theorem root_bound {H : List Hn} (hi : HInv H) (hl : H.length ≤ 1000000) {i : Nat} (hil : i < H.length) (hb : H[i].2.2.2 ≠ -1) {z : Nat} (h : Root H H[i].2.2.2 z) : Root H (i : Int) z := by
  obtain ⟨rk, hr, hrb⟩ := rank_small hi
  rcases hi.bnd i hil with h2 | ⟨h2, h3, _⟩
  · exact absurd h2 hb
  · obtain ⟨n, hn⟩ := fuk 2000000 (by omega)
    unfold Root m_terms_Term_Find at h ⊢
    rw [jn_eq] at h ⊢
    have e : m_terms_Term_Find_L2 H (fun z => some (z, H)) FU (i : Int) = m_terms_Term_Find_L2 H (fun z => some (z, H)) FU H[i].2.2.2 := by
      have h4 := hrb H[i].2.2.2
      have h5 := find_fuel hi hr (fun z => some (z, H)) (n + 1999999) (n + 1999999 + 1) H[i].2.2.2 (by omega) (by omega) h2 h3
      rw [hn, show n + 2000000 = n + 1999999 + 1 by omega, ← h5, m_terms_Term_Find_L2, m_terms_Term_Find_B2, need_pos (by omega), gi_nat hil, if_pos hb, need_pos (by omega)]
    exact e.trans h
theorem bnd_inv {H : List Hn} (hi : HInv H) (hl : H.length ≤ 1000000) {a b : Nat} (ha : a < H.length) (hf : H[a].2.2.2 = -1) (hv : H[a].1 = 1) (hb : b < H.length) (hbf : H[b].2.2.2 = -1) (hn : ¬ Reach H a (b : Int)) : HInv (bdH H a (b : Int)) := by
  obtain ⟨rk, hr, hrb⟩ := rank_small hi
  refine ⟨fun i hil => ?_, fun i hil k hk => ?_, fun i hil => ?_, ?_⟩
  · rw [bnd_len] at hil ⊢
    rw [bnd_get hil]
    by_cases e : i = a
    · subst e; rw [if_pos rfl]; exact .inr ⟨by dsimp only; omega, by dsimp only; omega, hv⟩
    · rw [if_neg e]; exact hi.bnd i hil
  · have hil' : i < H.length := by rw [bnd_len] at hil; exact hil
    rw [bnd_len]
    rw [bnd_get hil'] at hk
    by_cases e : i = a
    · subst e; rw [if_pos rfl] at hk; exact hi.kids i hil' k hk
    · rw [if_neg e] at hk; exact hi.kids i hil' k hk
  · have hil' : i < H.length := by rw [bnd_len] at hil; exact hil
    simp only [bnd_get hil']
    by_cases e : i = a
    · subst e; simp only [↓reduceIte]; exact hi.form i hil'
    · simp only [e, ↓reduceIte]; exact hi.form i hil'
  · classical
    have hra : Reach H a (a : Int) := .here (root_self ha hf)
    have hva : H[a].2.2.1 = [] := List.eq_nil_of_length_eq_zero (by have := (var_kids (hi.form a ha) hv).1; dsimp only at this; omega)
    refine ⟨fun x => if Reach H a x then rk x + rk (b : Int) + 1 else rk x, fun i hil => ?_⟩
    rw [bnd_len] at hil
    rw [bnd_get hil]
    by_cases e : i = a
    · subst e
      rw [if_pos rfl]
      dsimp only
      refine ⟨fun _ => ?_, fun k hk => ?_⟩
      · rw [if_pos hra, if_neg hn]; omega
      · rw [hva] at hk; cases hk
    · rw [if_neg e]
      refine ⟨fun hne => ?_, fun k hk => ?_⟩
      · have h1 := (hr i hil).1 hne
        have h2 : Reach H a H[i].2.2.2 → Reach H a (i : Int) := fun h => by
          rcases hi.bnd i hil with h3 | ⟨h3, h4, _⟩
          · exact absurd h3 hne
          · cases h with
            | here h => exact .here (root_bound hi hl hil hne h)
            | step h hy hk hh => exact .step (root_bound hi hl hil hne h) hy hk hh
        dsimp only
        by_cases h3 : Reach H a H[i].2.2.2
        · rw [if_pos h3, if_pos (h2 h3)]; omega
        · rw [if_neg h3]; split <;> omega
      · have h1 := (hr i hil).2 k hk
        have h2 : Reach H a k → Reach H a (i : Int) := fun h => by
          have hub : H[i].2.2.2 = -1 := by
            rcases hi.bnd i hil with h3 | ⟨_, _, h3⟩
            · exact h3
            · have := (var_kids (hi.form i hil) h3).1
              dsimp only at this
              rw [List.eq_nil_of_length_eq_zero (by omega : H[i].2.2.1.length = 0)] at hk; cases hk
          exact .step (root_self hil hub) hil (by rw [gi_nat hil]; exact hk) h
        dsimp only
        by_cases h3 : Reach H a k
        · rw [if_pos h3, if_pos (h2 h3)]; omega
        · rw [if_neg h3]; split <;> omega
end Go.Proofs.YtdfdjgolijckfaaDoor
/- Replacing in trees: what it tells of the parts; most general unifiers. -/
namespace Go.Proofs.YtdfdjgolijckfaaDoor
attribute [local irreducible] FU
theorem sbt_congr {τ σ : Int → List Nd} {A : List Nd} (h : ∀ v ∈ vsN A, τ v = σ v) : sbt τ A = sbt σ A := fm_congr (fun n hn => by
  unfold asg
  by_cases hk : n.1 = 1
  · rw [if_pos hk, if_pos hk, h _ (vs_of_mem hn hk)]
  · rw [if_neg hk, if_neg hk])
/-- A most general unifier; what it leaves is the least variable of those that are made equal. -/
structure Mgu (p q : List Nd) (σ : Int → List Nd) : Prop where
  tr : TrS σ
  eq : sbt σ p = sbt σ q
  gen : ∀ τ, TrS τ → sbt τ p = sbt τ q → ∀ v, v ∈ vsN p ∨ v ∈ vsN q → τ v = sbt τ (σ v)
  idem : ∀ v, v ∈ vsN p ∨ v ∈ vsN q → ∀ w ∈ vsN (σ v), (w ∈ vsN p ∨ w ∈ vsN q) ∧ σ w = [(1, w, 0)]
  least : ∀ v w, v ∈ vsN p ∨ v ∈ vsN q → w ∈ vsN p ∨ w ∈ vsN q → σ v = [(1, w, 0)] → w ≤ v
end Go.Proofs.YtdfdjgolijckfaaDoor
/- The most general solution of a heap. -/
namespace Go.Proofs.YtdfdjgolijckfaaDoor
attribute [local irreducible] FU
/-- A variable that is bound to a variable is bound to a lesser one. -/
def Ls (H : List Hn) : Prop := ∀ i (_ : i < H.length) j (_ : j < H.length), H[i].2.2.2 = (j : Int) → H[j].1 = 1 → H[j].2.1 < H[i].2.1
end Go.Proofs.YtdfdjgolijckfaaDoor
/- Making two nodes equal: what a step keeps. -/
namespace Go.Proofs.YtdfdjgolijckfaaDoor
attribute [local irreducible] FU
theorem look2_put {κ β : Type} [DecidableEq κ] (l : List (κ × β)) (k : κ) (x : β) (v : κ) : lookL (putL l k x) v = if k = v then some x else lookL l v := by
  induction l with
  | nil => simp [putL, lookL]
  | cons a l ih =>
    rw [putL]
    by_cases h : a.1 = k
    · rw [if_pos h, lookL, lookL]
      by_cases h2 : k = v
      · rw [if_pos h2, if_pos h2]
      · rw [if_neg h2, if_neg h2, if_neg (fun e => h2 (h.symm.trans e))]
    · rw [if_neg h, lookL, ih, lookL]
      by_cases h2 : a.1 = v
      · rw [if_pos h2, if_neg (fun e => h (h2.trans e.symm)), if_pos h2]
      · rw [if_neg h2, if_neg h2]
/-- How many variables are not bound. -/
def nv (H : List Hn) : Nat := H.countP (fun h => decide (h.1 = 1 ∧ h.2.2.2 = -1))
theorem nv_bd {H : List Hn} {a : Nat} (ha : a < H.length) (hf : H[a].2.2.2 = -1) (hv : H[a].1 = 1) {b : Int} (hb : b ≠ -1) : nv (bdH H a b) < nv H := by
  have hp : 0 < nv H := List.countP_pos_iff.2 ⟨H[a], List.getElem_mem ha, decide_eq_true ⟨hv, hf⟩⟩
  unfold nv at hp ⊢
  unfold bdH
  rw [List.countP_set ha, if_pos (decide_eq_true ⟨hv, hf⟩), if_neg (by simp [hb])]
  omega
/-- What stands before and after: the nodes but for what they are bound to, the solutions. -/
structure UOk (H H' : List Hn) (E : (Int → List Nd) → Prop) : Prop where
  inv : HInv H'
  ls : Ls H'
  len : H'.length = H.length
  same : ∀ i (h : i < H.length) (h' : i < H'.length), H'[i].1 = H[i].1 ∧ H'[i].2.1 = H[i].2.1 ∧ H'[i].2.2.1 = H[i].2.2.1
  sol : ∀ val, Sol H' val ↔ Sol H val ∧ E val
  prog : H' = H ∨ nv H' < nv H
theorem UOk.refl {H : List Hn} (hi : HInv H) (hs : Ls H) {E : (Int → List Nd) → Prop} (hE : ∀ val, Sol H val → E val) : UOk H H E :=
  ⟨hi, hs, rfl, fun _ _ _ => ⟨rfl, rfl, rfl⟩, fun val => ⟨fun h => ⟨h, hE val h⟩, fun h => h.1⟩, .inl rfl⟩
theorem UOk.trans {H H1 H2 : List Hn} {E F G : (Int → List Nd) → Prop} (h : UOk H H1 E) (k : UOk H1 H2 F) (hG : ∀ val, Sol H val → (G val ↔ E val ∧ F val)) : UOk H H2 G :=
  ⟨k.inv, k.ls, k.len.trans h.len, fun i h1 h2 => by
    have h3 : i < H1.length := by rw [h.len]; exact h1
    obtain ⟨a1, a2, a3⟩ := h.same i h1 h3
    obtain ⟨b1, b2, b3⟩ := k.same i h3 h2
    exact ⟨b1.trans a1, b2.trans a2, b3.trans a3⟩, fun val => by
    rw [k.sol, h.sol]
    constructor
    · rintro ⟨⟨h1, h2⟩, h3⟩; exact ⟨h1, (hG val h1).2 ⟨h2, h3⟩⟩
    · rintro ⟨h1, h2⟩; obtain ⟨h3, h4⟩ := (hG val h1).1 h2; exact ⟨⟨h1, h3⟩, h4⟩, by
    rcases h.prog with h1 | h1
    · subst h1; exact k.prog
    · rcases k.prog with h2 | h2
      · subst h2; exact .inr h1
      · exact .inr (by omega)⟩
/-- A variable is bound. -/
theorem UOk.bind {H : List Hn} (hi : HInv H) (hs : Ls H) (hl : H.length ≤ 1000000) {a b : Nat} (ha : a < H.length) (hf : H[a].2.2.2 = -1) (hv : H[a].1 = 1) (hb : b < H.length) (hbf : H[b].2.2.2 = -1) (hn : ¬ Reach H a (b : Int)) (hlt : H[b].1 = 1 → H[b].2.1 < H[a].2.1) :
    UOk H (bdH H a (b : Int)) (fun val => val (a : Int) = val (b : Int)) := by
  obtain ⟨rk, hr, hrb⟩ := rank_small hi
  refine ⟨bnd_inv hi hl ha hf hv hb hbf hn, fun i hil j hjl e hj => ?_, bnd_len H a b, fun i h1 h2 => ?_, fun val => ?_, .inr (nv_bd ha hf hv (by omega))⟩
  · rw [bnd_len] at hil hjl
    rw [bnd_get hil] at e ⊢
    rw [bnd_get hjl] at hj ⊢
    have hj1 : H[j].1 = 1 := by
      by_cases h : j = a
      · subst h; exact hv
      · rw [if_neg h] at hj; exact hj
    have hjn : (if j = a then (H[j].1, H[j].2.1, H[j].2.2.1, (b : Int)) else H[j]).2.1 = H[j].2.1 := by split <;> rfl
    rw [hjn]
    by_cases h : i = a
    · subst h
      rw [if_pos rfl] at e ⊢
      dsimp only at e ⊢
      obtain rfl : b = j := by omega
      exact hlt hj1
    · rw [if_neg h] at e ⊢
      exact hs i hil j hjl e hj1
  · rw [bnd_get h1]; split <;> exact ⟨rfl, rfl, rfl⟩
  · constructor
    · intro h
      have hT := sol_tr (bnd_inv hi hl ha hf hv hb hbf hn) (Classical.choose_spec (rank_small (bnd_inv hi hl ha hf hv hb hbf hn))).1 h (Classical.choose (rank_small (bnd_inv hi hl ha hf hv hb hbf hn)) (b : Int) + 1) b (by omega) (by rw [bnd_len]; exact hb)
      exact (bnd_sol hi ha hf hv hb hT).1 h
    · rintro ⟨h1, h2⟩
      have hT := sol_tr hi hr h1 (rk (b : Int) + 1) b (by omega) hb
      exact (bnd_sol hi ha hf hv hb hT).2 ⟨h1, h2⟩
/-- The pairs that are remembered are equal in every solution. -/
def PrOk (H : List Hn) (u : List ((Int × Int) × Bool)) : Prop := ∀ x y, Option.getD (lookL u (x, y)) false = true → ∀ val, Sol H val → val x = val y
theorem PrOk.mono {H H' : List Hn} {u : List ((Int × Int) × Bool)} (h : PrOk H u) {E : (Int → List Nd) → Prop} (k : UOk H H' E) : PrOk H' u := fun x y hu val hS => h x y hu val ((k.sol val).1 hS).1
theorem PrOk.put {H : List Hn} {u : List ((Int × Int) × Bool)} (h : PrOk H u) {a b : Int} (hE : ∀ val, Sol H val → val a = val b) : PrOk H (putL u (a, b) true) := fun x y hu val hS => by
  rw [look2_put] at hu
  by_cases e : (a, b) = (x, y)
  · have h1 : a = x := congrArg Prod.fst e
    have h2 : b = y := congrArg Prod.snd e
    rw [← h1, ← h2]; exact hE val hS
  · rw [if_neg e] at hu; exact h x y hu val hS
end Go.Proofs.YtdfdjgolijckfaaDoor
/- Making two terms equal. -/
namespace Go.Proofs.YtdfdjgolijckfaaDoor
attribute [local irreducible] FU
end Go.Proofs.YtdfdjgolijckfaaDoor
/- Writing and measuring a term. -/
namespace Go.Proofs.YtdfdjgolijckfaaDoor
attribute [local irreducible] FU
/-! ### Measure -/
end Go.Proofs.YtdfdjgolijckfaaDoor
/- What Unify answers: the most general unifier. -/
namespace Go.Proofs.YtdfdjgolijckfaaDoor
attribute [local irreducible] FU
theorem RInv.ls {H : List Hn} {m : List (Int × Int)} (h : RInv H m) : Ls H := fun i hi j _ e _ => by
  have := h.free i hi
  omega
/-- Both terms, read one after the other. -/
structure Two (p q : List Nd) (m : List (Int × Int)) (H : List Hn) (k l : Int) : Prop where
  inv : RInv H m
  idk : 0 ≤ k ∧ k < (H.length : Int)
  idl : 0 ≤ l ∧ l < (H.length : Int)
  all : ∀ v, v ∈ vsN p ∨ v ∈ vsN q → lookL m v ≠ none
  keys : ∀ v, lookL m v ≠ none → v ∈ vsN p ∨ v ∈ vsN q
  vk : ∀ val, Sol H val → val k = sbt (fun v => val ((lookL m v).getD (-1))) p
  vl : ∀ val, Sol H val → val l = sbt (fun v => val ((lookL m v).getD (-1))) q
  len : H.length ≤ p.length + q.length
/-- Trees for the variables: a solution. -/
theorem Two.ex {p q : List Nd} {m : List (Int × Int)} {H : List Hn} {k l : Int} (h : Two p q m H k l) {τ : Int → List Nd} (hτ : TrS τ) : ∃ val, Sol H val ∧ val k = sbt τ p ∧ val l = sbt τ q ∧ ∀ i (hi : i < H.length), H[i].1 = 1 → val (i : Int) = τ H[i].2.1 := by
  obtain ⟨val, hS, hv⟩ := sol_ex hτ H.length H rfl h.inv.free h.inv.kids
  have hc : ∀ t : List Nd, (∀ v ∈ vsN t, lookL m v ≠ none) → sbt (fun v => val ((lookL m v).getD (-1))) t = sbt τ t := fun t ht => sbt_congr (fun v hv' => by
    cases hx : lookL m v with
    | none => exact absurd hx (ht v hv')
    | some x =>
      obtain ⟨i, rfl, h2, h3⟩ := h.inv.look v x hx
      rw [Option.getD_some, hv i h2 (by rw [h3]), h3])
  exact ⟨val, hS, by rw [h.vk _ hS, hc p (fun v hv => h.all v (.inl hv))], by rw [h.vl _ hS, hc q (fun v hv => h.all v (.inr hv))], hv⟩
/-! ### The bindings -/
end Go.Proofs.YtdfdjgolijckfaaDoor
/- The laws: unifiers make equal; the order of the arguments does not matter. -/
namespace Go.Proofs.YtdfdjgolijckfaaDoor
attribute [local irreducible] FU
theorem rep_sbt {s : List Bd} {A : List Nd} (h : ∀ n ∈ A, fmB n = true) : rep s A = sbt (fun v => (lookL s v).getD [(1, v, 0)]) A := fm_congr (fun n hn => by
  unfold subN asg
  by_cases h1 : n.1 = 1
  · rw [if_pos h1, if_pos h1]
    have h2 := (var_kids (h n hn) h1).1
    dsimp only
    rw [show n = (1, n.2.1, 0) from Prod.ext h1 (Prod.ext rfl h2)]
  · rw [if_neg h1, if_neg h1])
/-- A unifier as Unify answers it. -/
structure Un (p q : List Nd) (s : List Bd) (σ : Int → List Nd) : Prop where
  M : Mgu p q σ
  vd : vdB (sbt σ p) = true
  sb : sbB s = true
  len : s.length ≤ 1024
  get : ∀ v, v ∈ vsN p ∨ v ∈ vsN q → (lookL s v).getD [(1, v, 0)] = σ v
  keys : ∀ v, lookL s v ≠ none → v ∈ vsN p ∨ v ∈ vsN q
theorem Un.app {p q : List Nd} {s : List Bd} {σ : Int → List Nd} (u : Un p q s σ) {t : List Nd} (ht : vdB t = true) (hv : ∀ v ∈ vsN t, v ∈ vsN p ∨ v ∈ vsN q) (h : vdB (sbt σ t) = true) : m_types_Apply s t = some (sbt σ t) := by
  have e : rep s t = sbt σ t := by
    rw [rep_sbt (vd_fm ht)]
    exact sbt_congr (fun v hv' => u.get v (hv v hv'))
  rw [vApply (by have := u.len; unfold maxLen; omega)]
  unfold apR
  rw [e, if_pos ⟨u.sb, ht, h⟩]
/-! ### Which variables -/
theorem has_loop (l : List Int) (hl : l.length ≤ 1000000) (v : Int) : ∀ (u : List Int) (j n : Nat), l.drop j = u → j + u.length = l.length → u.length < n → m_ref6_has_L2 l v (fun _ => some false) n (j : Int) = some (decide (v ∈ u)) ∧ m_help_Has_int_L2 l v (fun _ => some false) n (j : Int) = some (decide (v ∈ u))
  | [], j, n, hd, hj, hn => by
    obtain ⟨n, rfl⟩ : ∃ q, n = q + 1 := ⟨n - 1, by omega⟩
    simp only [List.length_nil] at hj
    exact ⟨by rw [m_ref6_has_L2, m_ref6_has_B2, if_neg (by omega)]; simp, by rw [m_help_Has_int_L2, m_help_Has_int_B2, if_neg (by omega)]; simp⟩
  | x :: u, j, n, hd, hj, hn => by
    obtain ⟨n, rfl⟩ : ∃ q, n = q + 1 := ⟨n - 1, by omega⟩
    simp only [List.length_cons] at hj hn
    have hjl : j < l.length := by omega
    have ha : l[j] = x ∧ l.drop (j + 1) = u := by rw [List.drop_eq_getElem_cons hjl] at hd; exact ⟨(List.cons.inj hd).1, (List.cons.inj hd).2⟩
    obtain ⟨i1, i2⟩ := has_loop l hl v u (j + 1) n ha.2 (by omega) (by omega)
    have hm : ¬ x = v → decide (v ∈ x :: u) = decide (v ∈ u) := fun e => by
      congr 1; rw [List.mem_cons]; exact propext ⟨fun h => h.resolve_left (fun h => e h.symm), .inr⟩
    constructor
    · rw [m_ref6_has_L2, m_ref6_has_B2, if_pos (by omega), need_pos (by omega), gi_nat hjl, ha.1, i64s (by omega), i1]
      by_cases e : x = v
      · subst e; simp
      · rw [if_neg e, hm e]
    · rw [m_help_Has_int_L2, m_help_Has_int_B2, if_pos (by omega), need_pos (by omega), gi_nat hjl, ha.1, i64s (by omega), i2]
      by_cases e : x = v
      · subst e; simp
      · rw [if_neg e, hm e]
theorem wHas (l : List Int) (hl : l.length ≤ 1000000) (v : Int) : m_ref6_has l v = some (decide (v ∈ l)) ∧ m_help_Has_int l v = some (decide (v ∈ l)) := by
  have h := has_loop l hl v l 0 FU rfl (by omega) (by have := FU_ge; omega)
  unfold m_ref6_has m_help_Has_int
  rw [jn_eq, jn_eq]
  exact h
theorem wVarsL {t : List Nd} (hl : t.length ≤ 1000000) (K : List Int → Option (List Int)) : ∀ (u : List Nd) (j n : Nat) (out : List Int), t.drop j = u → j ≤ t.length → u.length < n → out.length ≤ j → m_ref6_Vars_L2 t K n out (j : Int) = K (vgo out u)
  | [], j, 0, _, _, _, h, _ => by simp at h
  | [], j, n + 1, out, hd, hj, _, _ => by
    have := congrArg List.length hd
    simp at this
    rw [m_ref6_Vars_L2, m_ref6_Vars_B2, if_neg (by omega)]; rfl
  | a :: u, j, 0, _, _, _, h, _ => by simp at h
  | a :: u, j, n + 1, out, hd, hj, hn, ho => by
    have hlen := congrArg List.length hd
    simp at hlen
    have hjl : j < t.length := by omega
    have ha : t[j] = a ∧ t.drop (j + 1) = u := by rw [List.drop_eq_getElem_cons hjl] at hd; exact ⟨(List.cons.inj hd).1, (List.cons.inj hd).2⟩
    rw [m_ref6_Vars_L2, m_ref6_Vars_B2, if_pos (by omega)]
    simp only [jn_eq]
    rw [need_pos (by omega), gi_nat hjl, ha.1, vgo, i64s (by omega)]
    by_cases h1 : a.1 = 1
    · rw [if_pos h1, need_pos (by omega), (wHas out (by omega) a.2.1).1, bnd1_mk]
      by_cases h2 : a.2.1 ∈ out
      · rw [decide_eq_true h2, if_neg (by simp), if_neg (fun h => h.2 h2)]
        exact wVarsL hl K u (j + 1) n out ha.2 (by omega) (by simp at hn; omega) (by omega)
      · rw [decide_eq_false h2, if_pos (by simp), if_pos ⟨h1, h2⟩, need_pos (by omega), need_pos (by simp; omega)]
        exact wVarsL hl K u (j + 1) n _ ha.2 (by omega) (by simp at hn; omega) (by simp; omega)
    · rw [if_neg h1, if_neg (by simp), if_neg (fun h => h1 h.1)]
      exact wVarsL hl K u (j + 1) n out ha.2 (by omega) (by simp at hn; omega) (by omega)
theorem wVars {t : List Nd} (hl : t.length ≤ 1000000) : m_ref6_Vars t = some (vrs t) := by
  unfold m_ref6_Vars
  rw [jn_eq, show (0 : Int) = ((0 : Nat) : Int) from rfl, wVarsL hl _ t 0 FU [] rfl (Nat.zero_le _) (by have := FU_ge; omega) (by simp)]
end Go.Proofs.YtdfdjgolijckfaaDoor
/- Variables of arbitrary nodes; the reference's canonical form. -/
namespace Go.Proofs.YtdfdjgolijckfaaDoor
attribute [local irreducible] FU
theorem vVarsB {t : List Nd} (hl : t.length ≤ 1000000) : m_types_Vars t = some (vrs t) := by
  unfold m_types_Vars
  rw [jn_eq, show (0 : Int) = ((0 : Nat) : Int) from rfl, vVars hl _ t 0 FU [] [] rfl (Nat.zero_le _) (by have := FU_ge; omega) (by simp) (fun v => by simp [lookL])]
theorem eqInt_loop (l : List Int) (hl : l.length ≤ 4611686018427387904) (K : Unit → Option Bool) : ∀ (m j n : Nat), j + m = l.length → m < n → m_help_Equal_int_L2 l l K n (j : Int) = K ()
  | 0, j, n, hj, hn => by
    obtain ⟨n, rfl⟩ : ∃ q, n = q + 1 := ⟨n - 1, by omega⟩
    rw [m_help_Equal_int_L2, m_help_Equal_int_B2, if_neg (by omega)]
  | m + 1, j, n, hj, hn => by
    obtain ⟨n, rfl⟩ : ∃ q, n = q + 1 := ⟨n - 1, by omega⟩
    rw [m_help_Equal_int_L2, m_help_Equal_int_B2, if_pos (by omega), need_pos (by omega), need_pos (by omega), if_neg (fun h => h rfl), i64s (by omega)]
    exact eqInt_loop l hl K m (j + 1) n (by omega) (by omega)
theorem eqInt (l : List Int) (hl : l.length ≤ 4611686018427387904) : m_help_Equal_int l l = some true := by
  unfold m_help_Equal_int
  rw [if_neg (fun h => h rfl), jn_eq]
  exact eqInt_loop l hl _ l.length 0 FU (by omega) (by have := FU_ge; omega)
theorem vgo_nodup : ∀ {t : List Nd} {out : List Int}, out.Nodup → (vgo out t).Nodup
  | [], _, h => h
  | n :: t, out, h => by
    rw [vgo]
    split
    · rename_i h1
      refine vgo_nodup ?_
      rw [List.nodup_append]
      exact ⟨h, by simp, fun a ha b hb e => h1.2 (by rw [List.mem_singleton] at hb; rw [← hb, ← e]; exact ha)⟩
    · exact vgo_nodup h
theorem wCanL14 {t : List Nd} (hl : t.length ≤ 512) {vs : List Int} (hvl : vs.length ≤ 512) (hnd : vs.Nodup) {i : Nat} (hi : i < t.length) {pre post : List Nd} (hpre : pre.length = i) (K : List Nd → Option (List Nd)) :
    ∀ (m k n : Nat) (x : Nd), k + m = vs.length → m < n → x.1 = t[i].1 → x.2.2 = t[i].2.2 → (t[i].1 = 1 → t[i].2.1 ∈ vs) → (x.2.1 = if t[i].1 = 1 ∧ vs.idxOf t[i].2.1 < k then (vs.idxOf t[i].2.1 : Int) else t[i].2.1) → m_ref6_Canon_L14 t vs (i : Int) K n (pre ++ x :: post) (k : Int) = K (pre ++ ren (ix vs) t[i] :: post)
  | m, k, 0, _, _, h, _, _, _, _ => by omega
  | m, k, n + 1, x, hk, hn, h1, h2, hv, h3 => by
    have hlen : (pre ++ x :: post).length = i + 1 + post.length := by simp; omega
    have hg : gi (pre ++ x :: post) (i : Int) = x := by
      rw [gi_nat (by omega), List.getElem_append_right (by omega)]
      simp [hpre]
    rw [m_ref6_Canon_L14, m_ref6_Canon_B14]
    simp only [jn_eq]
    rw [need_pos (by omega), hg, h1]
    by_cases hv1 : t[i].1 = 1
    · have hm := hv hv1
      have hix := List.idxOf_lt_length_of_mem hm
      rw [if_pos hv1]
      match m, hk, hn with
      | 0, hk, hn =>
        rw [decide_eq_false (by omega), if_neg (by simp)]
        congr 2
        rw [if_pos ⟨hv1, by omega⟩] at h3
        unfold ren ix
        rw [if_pos hv1, if_pos hm]
        exact congrArg (fun z => z :: post) (Prod.ext (h1.trans hv1) (Prod.ext h3 h2))
      | m + 1, hk, hn =>
        have hkl : k < vs.length := by omega
        rw [decide_eq_true (by omega), if_pos rfl, need_pos (by omega), need_pos (by omega), gi_nat hkl, gi_nat hi, i64s (by omega)]
        by_cases e : vs[k] = t[i].2.1
        · have hke : vs.idxOf t[i].2.1 = k := by rw [← e]; exact hnd.idxOf_getElem k hkl
          rw [if_pos e, need_pos (by omega), Int.toNat_natCast, List.set_append_right _ _ (by omega), hpre, Nat.sub_self, List.set_cons_zero]
          exact wCanL14 hl hvl hnd hi hpre K m (k + 1) n _ (by omega) (by omega) rfl h2 hv (by dsimp only; rw [if_pos ⟨hv1, by omega⟩, hke])
        · have hke : vs.idxOf t[i].2.1 ≠ k := fun h => e (by
            have := List.getElem_idxOf hix
            simp only [h] at this; exact this)
          rw [if_neg e]
          refine wCanL14 hl hvl hnd hi hpre K m (k + 1) n x (by omega) (by omega) h1 h2 hv ?_
          rw [h3]
          by_cases hlt : vs.idxOf t[i].2.1 < k
          · rw [if_pos ⟨hv1, hlt⟩, if_pos ⟨hv1, by omega⟩]
          · rw [if_neg (fun h => hlt h.2), if_neg (fun h => by have := h.2; omega)]
    · rw [if_neg hv1, if_neg (by simp)]
      rw [if_neg (fun h => hv1 h.1)] at h3
      congr 2
      unfold ren
      rw [if_neg hv1]
      exact congrArg (fun z => z :: post) (Prod.ext h1 (Prod.ext h3 h2))
theorem wCanL8 {t : List Nd} (hl : t.length ≤ 512) {vs : List Int} (hvl : vs.length ≤ 512) (hnd : vs.Nodup) (hv : ∀ n ∈ t, n.1 = 1 → n.2.1 ∈ vs) (K : List Nd → Option (List Nd)) : ∀ (m j n : Nat), j + m = t.length → m < n →
    m_ref6_Canon_L8 t vs K n ((t.take j).map (ren (ix vs)) ++ t.drop j) (j : Int) = K (t.map (ren (ix vs)))
  | 0, j, n, hj, hn => by
    obtain ⟨n, rfl⟩ : ∃ q, n = q + 1 := ⟨n - 1, by omega⟩
    rw [m_ref6_Canon_L8, m_ref6_Canon_B8, if_neg (by simp; omega), List.take_of_length_le (by omega), List.drop_of_length_le (by omega), List.append_nil]
  | m + 1, j, n, hj, hn => by
    obtain ⟨n, rfl⟩ : ∃ q, n = q + 1 := ⟨n - 1, by omega⟩
    have hjl : j < t.length := by omega
    have ih := wCanL8 hl hvl hnd hv K m (j + 1) n (by omega) (by omega)
    rw [List.take_succ_eq_append_getElem hjl, List.map_append, List.append_assoc] at ih
    rw [m_ref6_Canon_L8, m_ref6_Canon_B8, if_pos (by simp; omega), jn_eq, List.drop_eq_getElem_cons hjl, show (0 : Int) = ((0 : Nat) : Int) from rfl,
      wCanL14 hl hvl hnd hjl (by simp; omega) _ vs.length 0 FU t[j] (by omega) (by have := FU_ge; omega) rfl rfl (fun h => hv _ (List.getElem_mem hjl) h) (by rw [if_neg (fun h => by have := h.2; omega)]), i64s (by omega)]
    exact ih
theorem wCanon (t : List Nd) : m_ref6_Canon t = some (canR t) := by
  unfold m_ref6_Canon canR
  rw [wValid, bnd1_mk]
  cases hv : vdB t with
  | false => simp
  | true =>
    have hl := vdB_len hv
    have hvl : (vrs t).length ≤ t.length := Nat.le_trans (vgo_len t []) (by simp)
    have h2 := wCanL8 hl (vs := vrs t) (by omega) (vgo_nodup (by simp)) (fun n hn h1 => vrs_mem.2 (vs_of_mem hn h1)) (fun x => some x) t.length 0 FU (by omega) (by have := FU_ge; omega)
    rw [List.take_zero, List.map_nil, List.nil_append, List.drop_zero] at h2
    rw [Bool.not_true, if_neg (by simp), wVars (by omega), bnd1_mk, need_pos (by omega), jn_eq, if_pos rfl]
    exact h2
end Go.Proofs.YtdfdjgolijckfaaDoor
/- Texts of types: what the program writes. -/
namespace Go.Proofs.YtdfdjgolijckfaaDoor
attribute [local irreducible] FU
theorem dec_len : ∀ (k u : Nat), u < 10 ^ (k + 1) → (Lib.decDigits u).length ≤ k + 1
  | k, u, h => by
    rw [Lib.decDigits]
    split
    · simp
    · rename_i h0
      match k, h with
      | 0, h => simp at h; omega
      | k + 1, h =>
        rw [List.length_append, List.length_singleton]
        have := dec_len k (u / 10) (by rw [Nat.pow_succ] at h; omega)
        omega
theorem itoa_len {n : Int} (h0 : 0 ≤ n) (h1 : n ≤ 1073741824) : (Lib.itoa n).length ≤ 10 := by
  unfold Lib.itoa
  rw [if_neg (by omega)]
  exact dec_len 9 n.toNat (by omega)
theorem vItoa {n : Int} (h0 : 0 ≤ n) (h1 : n ≤ 1073741824) : m_strconv_Itoa n = some (Lib.itoa n) := by
  unfold m_strconv_Itoa m_internal_strconv_Itoa m_itoa
  rw [need_pos ⟨rfl, by omega, by omega⟩, bnd1_mk, bnd1_mk]
def sumL (l : List (List UInt8)) (c : Nat) : Nat := (l.map (fun x => x.length + c)).sum
theorem sumL_cons (x : List UInt8) (l : List (List UInt8)) (c : Nat) : sumL (x :: l) c = x.length + c + sumL l c := by simp [sumL]
theorem joinTail_cons (sep x : List UInt8) (r : List (List UInt8)) : Lib.joinTail sep (x :: r) = sep ++ x ++ Lib.joinTail sep r := by simp [Lib.joinTail]
theorem joinTail_len (sep : List UInt8) : ∀ r : List (List UInt8), (Lib.joinTail sep r).length = sumL r sep.length
  | [] => rfl
  | x :: r => by
    rw [sumL_cons, ← joinTail_len sep r, joinTail_cons]
    simp; omega
theorem join_len (l : List (List UInt8)) : (Lib.join l [44, 32]).length ≤ sumL l 2 := by
  cases l with
  | nil => rw [Lib.join_nil]; simp
  | cons x r => rw [Lib.join_cons, List.length_append, joinTail_len, sumL_cons]; simp
theorem sumL_take (l : List (List UInt8)) (c : Nat) : ∀ n, sumL (l.take n) c ≤ sumL l c := by
  induction l with
  | nil => intro n; simp
  | cons x l ih =>
    intro n
    cases n with
    | zero => simp [sumL]
    | succ n => rw [List.take_succ_cons, sumL_cons, sumL_cons]; have := ih n; omega
theorem sum_mem {l : List (List UInt8)} {x : List UInt8} {c : Nat} (h : x ∈ l) : x.length ≤ sumL l c := by
  induction l with
  | nil => cases h
  | cons a l ih =>
    rw [sumL_cons]
    rcases List.mem_cons.1 h with rfl | h
    · omega
    · have := ih h; omega
theorem vJoinT {l : List (List UInt8)} (hl : l.length ≤ 1000000) (hs : sumL l 2 ≤ 140737488355328) : m_join l [44, 32] = some (Lib.join l [44, 32]) := by
  unfold m_join
  rw [need_pos ⟨by omega, Nat.le_trans (join_len l) hs⟩]
/-- The text of a node, from those of its children. -/
def wrN (nm : List (List UInt8)) (k m : Int) (ls : List (List UInt8)) : List UInt8 :=
  if k = 1 then [116] ++ Lib.itoa m
  else if k = 2 then [73, 110, 116]
  else if k = 3 then [66, 111, 111, 108]
  else if k = 4 then [69, 118, 101, 110, 116]
  else if k = 5 then [80, 114, 111, 99]
  else if k = 6 then (if m < (nm.length : Int) then gi nm m else [68] ++ Lib.itoa m)
  else if k = 7 then [60] ++ gi ls 0 ++ [62]
  else if k = 8 then [123] ++ gi ls 0 ++ [125]
  else if k = 9 then [40, 124] ++ gi ls 0 ++ [32, 61, 62, 32] ++ gi ls 1 ++ [124, 41]
  else if k = 12 then [40] ++ gi ls 0 ++ [46] ++ gi ls 1 ++ [41]
  else if k = 13 then [40] ++ gi ls 0 ++ [32, 61, 62, 32] ++ gi ls 1 ++ [41]
  else if k = 10 then [40] ++ Lib.join ls [44, 32] ++ [41]
  else [40] ++ Lib.join (ls.take (ls.length - 1)) [44, 32] ++ [41, 32, 45, 62, 32] ++ gi ls ((ls.length - 1 : Nat) : Int)
def Tw (R : List Nd → List UInt8 → Prop) : List (List Nd) → List (List UInt8) → Prop
  | [], [] => True
  | a :: us, b :: bs => R a b ∧ Tw R us bs
  | _, _ => False
theorem Tw.len {R : List Nd → List UInt8 → Prop} : ∀ {us : List (List Nd)} {bs : List (List UInt8)}, Tw R us bs → us.length = bs.length
  | [], [], _ => rfl
  | a :: us, b :: bs, h => by rw [List.length_cons, List.length_cons, h.2.len]
  | [], _ :: _, h => h.elim
  | _ :: _, [], h => h.elim
/-- X is the text of the tree t. -/
def Tx (nm : List (List UInt8)) : Nat → List Nd → List UInt8 → Prop
  | 0, _, _ => False
  | d + 1, t, X => ∃ (k m : Int) (ks : List (List Nd)) (ls : List (List UInt8)), t = (k, m, (ks.length : Int)) :: ks.flatten ∧ fmB (k, m, (ks.length : Int)) = true ∧ (∀ x ∈ ks, Tr d x) ∧ Tw (Tx nm d) ks ls ∧ X = wrN nm k m ls
def NmOk (nm : List (List UInt8)) : Prop := ∀ x ∈ nm, x.length ≤ 1048576
/-- How many children a kind has. -/
theorem kind_kids {k m : Int} {c : Nat} (h : fmB (k, m, (c : Int)) = true) : (k = 7 ∨ k = 8 → c = 1) ∧ (k = 9 ∨ k = 12 ∨ k = 13 → c = 2) ∧ (k = 11 → 1 ≤ c) := by
  have hk := fm_kinds h
  dsimp only at hk
  unfold fmB at h
  rcases hk with e | e | e | e | e | e | e | e | e | e | e | e | e <;> simp [e] at h ⊢ <;> omega
theorem wr_len {nm : List (List UInt8)} (hnm : NmOk nm) {k m : Int} {ls : List (List UInt8)} (hf : fmB (k, m, (ls.length : Int)) = true) : (wrN nm k m ls).length ≤ sumL ls 2 + 1048576 := by
  have hk9 := fm_kids hf
  dsimp only at hk9
  obtain ⟨c1, c2, c3⟩ := kind_kids hf
  have hi := itoa_len hk9.2.2.1 hk9.2.2.2
  have hj := join_len ls
  have hj2 := join_len (ls.take (ls.length - 1))
  have hj3 := sumL_take ls 2 (ls.length - 1)
  unfold wrN
  by_cases e1 : k = 1
  · rw [if_pos e1, List.length_append, List.length_singleton]; omega
  by_cases e2 : k = 2
  · rw [if_neg e1, if_pos e2]; simp
  by_cases e3 : k = 3
  · rw [if_neg e1, if_neg e2, if_pos e3]; simp
  by_cases e4 : k = 4
  · rw [if_neg e1, if_neg e2, if_neg e3, if_pos e4]; simp
  by_cases e5 : k = 5
  · rw [if_neg e1, if_neg e2, if_neg e3, if_neg e4, if_pos e5]; simp
  by_cases e6 : k = 6
  · rw [if_neg e1, if_neg e2, if_neg e3, if_neg e4, if_neg e5, if_pos e6]
    by_cases hm : m < (nm.length : Int)
    · rw [if_pos hm]
      obtain ⟨j, rfl⟩ : ∃ j : Nat, m = (j : Int) := ⟨m.toNat, by omega⟩
      rw [gi_nat (by omega)]
      have := hnm _ (List.getElem_mem (show j < nm.length by omega))
      omega
    · rw [if_neg hm]; simp; omega
  rw [if_neg e1, if_neg e2, if_neg e3, if_neg e4, if_neg e5, if_neg e6]
  by_cases e7 : k = 7
  · rw [if_pos e7]
    match ls, c1 (.inl e7) with
    | [a], _ => simp [gi, sumL]; try omega
  by_cases e8 : k = 8
  · rw [if_neg e7, if_pos e8]
    match ls, c1 (.inr e8) with
    | [a], _ => simp [gi, sumL]; try omega
  by_cases e9 : k = 9
  · rw [if_neg e7, if_neg e8, if_pos e9]
    match ls, c2 (.inl e9) with
    | [a, b], _ => simp [gi, sumL]; omega
  by_cases e12 : k = 12
  · rw [if_neg e7, if_neg e8, if_neg e9, if_pos e12]
    match ls, c2 (.inr (.inl e12)) with
    | [a, b], _ => simp [gi, sumL]; omega
  by_cases e13 : k = 13
  · rw [if_neg e7, if_neg e8, if_neg e9, if_neg e12, if_pos e13]
    match ls, c2 (.inr (.inr e13)) with
    | [a, b], _ => simp [gi, sumL]; omega
  by_cases e10 : k = 10
  · rw [if_neg e7, if_neg e8, if_neg e9, if_neg e12, if_neg e13, if_pos e10]; simp; omega
  have e11 : k = 11 := by
    have := fm_kinds hf
    dsimp only at this; omega
  rw [if_neg e7, if_neg e8, if_neg e9, if_neg e12, if_neg e13, if_neg e10]
  have hpos := c3 e11
  have hg : (gi ls ((ls.length - 1 : Nat) : Int)).length + sumL (ls.take (ls.length - 1)) 2 ≤ sumL ls 2 := by
    have h1 : ls = ls.take (ls.length - 1) ++ [ls[ls.length - 1]'(by omega)] := by
      conv => lhs; rw [← List.take_append_drop (ls.length - 1) ls]
      congr 1
      rw [List.drop_eq_getElem_cons (by omega), List.drop_of_length_le (by omega)]
    have h2 : sumL ls 2 = sumL (ls.take (ls.length - 1)) 2 + ((ls[ls.length - 1]'(by omega)).length + 2) := by
      have h3 : ∀ a b : List (List UInt8), sumL (a ++ b) 2 = sumL a 2 + sumL b 2 := fun a b => by simp [sumL]
      have h4 : sumL ls 2 = sumL (ls.take (ls.length - 1) ++ [ls[ls.length - 1]'(by omega)]) 2 := congrArg (fun z => sumL z 2) h1
      rw [h4, h3]
      simp [sumL]
    rw [gi_nat (by omega)]
    omega
  simp; omega
theorem tx_len {nm : List (List UInt8)} (hnm : NmOk nm) : ∀ {d : Nat} {t : List Nd} {X : List UInt8}, Tx nm d t X → X.length + 2 ≤ t.length * 1048600
  | 0, _, _, h => h.elim
  | d + 1, t, X, ⟨k, m, ks, ls, h1, h2, h3, h4, h5⟩ => by
    have hs : ∀ {us : List (List Nd)} {bs : List (List UInt8)}, Tw (Tx nm d) us bs → sumL bs 2 ≤ us.flatten.length * 1048600 := by
      intro us
      induction us with
      | nil => intro bs h; cases bs with | nil => simp [sumL] | cons _ _ => exact h.elim
      | cons a us ih =>
        intro bs h
        cases bs with
        | nil => exact h.elim
        | cons b bs =>
          have := tx_len hnm h.1
          have := ih h.2
          rw [sumL_cons, List.flatten_cons, List.length_append, Nat.add_mul]; omega
    have := hs h4
    have hw := wr_len hnm (k := k) (m := m) (ls := ls) (by rw [← h4.len]; exact h2)
    subst h1 h5
    simp only [List.length_cons]; omega
theorem vTxL {self : List Nd → List (List UInt8) → Option (List UInt8 × List Nd)} {nm : List (List UInt8)} {d : Nat} {c : Nat} (hc9 : c ≤ 9)
    (hself : ∀ (A : List Nd), Tr d A → A.length ≤ 512 → ∃ X, Tx nm d A X ∧ ∀ ra, self (A ++ ra) nm = some (X, ra)) :
    ∀ (ks : List (List Nd)), (∀ x ∈ ks, Tr d x) → ks.flatten.length ≤ 512 →
      ∃ ls, Tw (Tx nm d) ks ls ∧ ∀ (a0 : List Nd) (_ : (gi a0 0).2.2 = (c : Int)) (K : List Nd → List (List UInt8) → Option (List UInt8 × List Nd)) (j n : Nat) (ra : List Nd) (acc : List (List UInt8)), j + ks.length = c → ks.length < n → acc.length ≤ j → m_types_text_L2 self a0 nm K n (ks.flatten ++ ra) acc (j : Int) = K ra (acc ++ ls)
  | [], _, _ => by
    refine ⟨[], by unfold Tw; trivial, fun a0 hc K j n ra acc hj hn ha => ?_⟩
    obtain ⟨n, rfl⟩ : ∃ q, n = q + 1 := ⟨n - 1, by omega⟩
    simp only [List.length_nil] at hj
    rw [m_types_text_L2, m_types_text_B2, hc, if_neg (by omega)]; simp
  | A :: ks, hks, hl => by
    rw [List.flatten_cons, List.length_append] at hl
    obtain ⟨X, h1, e1⟩ := hself A (hks A List.mem_cons_self) (by omega)
    obtain ⟨ls, h2, e2⟩ := vTxL hc9 hself ks (fun x hx => hks x (List.mem_cons_of_mem _ hx)) (by omega)
    refine ⟨X :: ls, ⟨h1, h2⟩, fun a0 hc K j n ra acc hj hn ha => ?_⟩
    obtain ⟨n, rfl⟩ : ∃ q, n = q + 1 := ⟨n - 1, by omega⟩
    simp only [List.length_cons] at hj hn
    rw [List.flatten_cons, List.append_assoc, m_types_text_L2, m_types_text_B2, hc, if_pos (by omega), e1, bnd1_mk, need_pos (by simp; omega), i64s (by omega), e2 a0 hc K (j + 1) n ra _ (by omega) (by omega) (by simp; omega), List.append_assoc]
    rfl
theorem tw_get {nm : List (List UInt8)} (hnm : NmOk nm) {d : Nat} {ks : List (List Nd)} {ls : List (List UInt8)} (h : Tw (Tx nm d) ks ls) (hl : ks.flatten.length ≤ 512) : sumL ls 2 ≤ 536883200 := by
  have hs : ∀ {us : List (List Nd)} {bs : List (List UInt8)}, Tw (Tx nm d) us bs → sumL bs 2 ≤ us.flatten.length * 1048600 := by
    intro us
    induction us with
    | nil => intro bs h; cases bs with | nil => simp [sumL] | cons _ _ => exact h.elim
    | cons a us ih =>
      intro bs h
      cases bs with
      | nil => exact h.elim
      | cons b bs =>
        have := tx_len hnm h.1
        have := ih h.2
        rw [sumL_cons, List.flatten_cons, List.length_append, Nat.add_mul]; omega
  have := hs h
  have : ks.flatten.length * 1048600 ≤ 512 * 1048600 := Nat.mul_le_mul_right _ hl
  omega
theorem vTx {nm : List (List UInt8)} (hnm : NmOk nm) (hnl : nm.length ≤ 1048576) : ∀ (d n : Nat), d < n → ∀ (A : List Nd), Tr d A → A.length ≤ 512 → ∃ X, Tx nm d A X ∧ ∀ ra, m_types_text_S n (A ++ ra) nm = some (X, ra)
  | _, 0, h, _, _, _ => by omega
  | 0, n + 1, _, _, h, _ => h.elim
  | d + 1, n + 1, hn, A, ⟨k, m, ks, hA, hf, hks⟩, hl => by
    subst hA
    simp only [List.length_cons] at hl
    have hk9 := fm_kids hf
    dsimp only at hk9
    have hi := itoa_len hk9.2.2.1 hk9.2.2.2
    obtain ⟨ls, htw, e⟩ := vTxL (self := m_types_text_S n) (nm := nm) (d := d) (c := ks.length) (by omega) (fun A hA hl => vTx hnm hnl d n (by omega) A hA hl) ks hks (by omega)
    refine ⟨wrN nm k m ls, ⟨k, m, ks, ls, rfl, hf, hks, htw, rfl⟩, fun ra => ?_⟩
    have hlen := htw.len
    have hs := tw_get hnm htw (by omega)
    have hfl : fmB (k, m, (ls.length : Int)) = true := by rw [← hlen]; exact hf
    obtain ⟨c1, c2, c3⟩ := kind_kids hfl
    have e0 : ∀ K, m_types_text_L2 (m_types_text_S n) ((k, m, (ks.length : Int)) :: ks.flatten ++ ra) nm K FU (ks.flatten ++ ra) [] 0 = K ra ls := fun K => (e ((k, m, (ks.length : Int)) :: ks.flatten ++ ra) rfl K 0 FU ra [] (by omega) (by have := FU_ge; omega) (by simp)).trans (by rw [List.nil_append])
    have g0 : gi ((k, m, (ks.length : Int)) :: ks.flatten ++ ra) 0 = (k, m, (ks.length : Int)) := rfl
    have hd1 : List.drop (Int.toNat 1) ((k, m, (ks.length : Int)) :: ks.flatten ++ ra) = ks.flatten ++ ra := rfl
    rw [m_types_text_S, m_types_text_F, need_pos (by simp; omega), need_pos (by simp; omega), jn_eq, hd1, e0, g0]
    dsimp only
    unfold wrN
    by_cases e1 : k = 1
    · rw [if_pos e1, if_pos e1, vItoa hk9.2.2.1 hk9.2.2.2, bnd1_mk, need_pos (by simp; omega)]
    rw [if_neg e1, if_neg e1]
    by_cases e2 : k = 2
    · rw [if_pos e2, if_pos e2]
    rw [if_neg e2, if_neg e2]
    by_cases e3 : k = 3
    · rw [if_pos e3, if_pos e3]
    rw [if_neg e3, if_neg e3]
    by_cases e4 : k = 4
    · rw [if_pos e4, if_pos e4]
    rw [if_neg e4, if_neg e4]
    by_cases e5 : k = 5
    · rw [if_pos e5, if_pos e5]
    rw [if_neg e5, if_neg e5]
    by_cases e6 : k = 6
    · rw [if_pos e6, if_pos e6]
      by_cases hm : m < (nm.length : Int)
      · rw [if_pos hm, if_pos hm, need_pos (by omega)]
      · rw [if_neg hm, if_neg hm, vItoa hk9.2.2.1 hk9.2.2.2, bnd1_mk, need_pos (by simp; omega)]
    rw [if_neg e6, if_neg e6]
    by_cases e7 : k = 7
    · rw [if_pos e7, if_pos e7]
      match ls, c1 (.inl e7), hs with
      | [a], _, hs => simp only [sumL, List.map_cons, List.map_nil, List.sum_cons, List.sum_nil] at hs; rw [need_pos (by simp), need_pos (by simp [gi]; omega), need_pos (by simp [gi]; omega)]
    rw [if_neg e7, if_neg e7]
    by_cases e8 : k = 8
    · rw [if_pos e8, if_pos e8]
      match ls, c1 (.inr e8), hs with
      | [a], _, hs => simp only [sumL, List.map_cons, List.map_nil, List.sum_cons, List.sum_nil] at hs; rw [need_pos (by simp), need_pos (by simp [gi]; omega), need_pos (by simp [gi]; omega)]
    rw [if_neg e8, if_neg e8]
    by_cases e9 : k = 9
    · rw [if_pos e9, if_pos e9]
      match ls, c2 (.inl e9), hs with
      | [a, b], _, hs => simp only [sumL, List.map_cons, List.map_nil, List.sum_cons, List.sum_nil] at hs; rw [need_pos (by simp), need_pos (by simp [gi]; omega), need_pos (by simp [gi]; omega), need_pos (by simp), need_pos (by simp [gi]; omega), need_pos (by simp [gi]; omega)]
    rw [if_neg e9, if_neg e9]
    by_cases e12 : k = 12
    · rw [if_neg (by omega), if_pos e12, if_pos e12]
      match ls, c2 (.inr (.inl e12)), hs with
      | [a, b], _, hs => simp only [sumL, List.map_cons, List.map_nil, List.sum_cons, List.sum_nil] at hs; rw [need_pos (by simp), need_pos (by simp [gi]; omega), need_pos (by simp [gi]; omega), need_pos (by simp), need_pos (by simp [gi]; omega), need_pos (by simp [gi]; omega)]
    by_cases e13 : k = 13
    · rw [if_neg (by omega), if_neg e12, if_pos e13, if_neg e12, if_pos e13]
      match ls, c2 (.inr (.inr e13)), hs with
      | [a, b], _, hs => simp only [sumL, List.map_cons, List.map_nil, List.sum_cons, List.sum_nil] at hs; rw [need_pos (by simp), need_pos (by simp [gi]; omega), need_pos (by simp [gi]; omega), need_pos (by simp), need_pos (by simp [gi]; omega), need_pos (by simp [gi]; omega)]
    have hj := join_len ls
    have hj2 := join_len (ls.take (ls.length - 1))
    have hj3 := sumL_take ls 2 (ls.length - 1)
    by_cases e10 : k = 10
    · rw [if_neg (by omega), if_neg e12, if_neg e13, if_neg e12, if_neg e13, if_pos e10, vJoinT (by omega) (by omega), bnd1_mk, need_pos (by simp; omega), need_pos (by simp; omega)]
    have e11 : k = 11 := by
      have := fm_kinds hf
      dsimp only at this; omega
    have hpos := c3 e11
    have hix : i64 ((ls.length : Int) - 1) = ((ls.length - 1 : Nat) : Int) := by rw [i64_id (by omega)]; omega
    have hg : (gi ls ((ls.length - 1 : Nat) : Int)).length ≤ sumL ls 2 := by
      rw [gi_nat (by omega)]; exact sum_mem (List.getElem_mem _)
    rw [if_pos e11, if_neg e12, if_neg e13, if_neg e10, hix, need_pos (by omega), Int.toNat_natCast, vJoinT (by simp; omega) (by omega), bnd1_mk, need_pos (by simp; omega), need_pos (by simp; omega), need_pos (by omega), need_pos (by simp; omega)]
end Go.Proofs.YtdfdjgolijckfaaDoor
/- Texts of types: the reference writes the same; the law of TypesDescribe. -/
namespace Go.Proofs.YtdfdjgolijckfaaDoor
attribute [local irreducible] FU
theorem dig_at {d : Nat} (hd : d < 10) : List.take (Int.toNat (i64 ((d : Int) + 1)) - Int.toNat (d : Int)) (List.drop (Int.toNat (d : Int)) ([48, 49, 50, 51, 52, 53, 54, 55, 56, 57] : List UInt8)) = [UInt8.ofNat (48 + d)] := by
  rw [i64_id (by omega)]
  have h : d = 0 ∨ d = 1 ∨ d = 2 ∨ d = 3 ∨ d = 4 ∨ d = 5 ∨ d = 6 ∨ d = 7 ∨ d = 8 ∨ d = 9 := by omega
  rcases h with rfl | rfl | rfl | rfl | rfl | rfl | rfl | rfl | rfl | rfl <;> first | rfl | decide
theorem tmod10 (u : Nat) : Int.tmod (u : Int) 10 = ((u % 10 : Nat) : Int) := rfl
theorem tdiv10 (u : Nat) : Int.tdiv (u : Int) 10 = ((u / 10 : Nat) : Int) := rfl
theorem dec_step (u : Nat) (acc : List UInt8) : (if u = 0 then [] else Lib.decDigits u) ++ acc = if u = 0 then acc else (if u / 10 = 0 then [] else Lib.decDigits (u / 10)) ++ ([UInt8.ofNat (48 + u % 10)] ++ acc) := by
  by_cases h : u = 0
  · rw [if_pos h, if_pos h, List.nil_append]
  · rw [if_neg h, if_neg h, Lib.decDigits]
    by_cases h10 : u < 10
    · rw [dif_pos h10, if_pos (by omega), show u % 10 = u by omega, List.nil_append]
    · rw [dif_neg h10, if_neg (by omega), List.append_assoc]
theorem decL (K : List UInt8 → Option (List UInt8)) : ∀ (m u n : Nat) (acc : List UInt8), u < 10 ^ m → u ≤ 1073741824 → m < n → acc.length + m ≤ 1000 → m_ref6_digits_L2 K n (u : Int) acc = K ((if u = 0 then [] else Lib.decDigits u) ++ acc)
  | m, u, 0, _, _, _, h, _ => by omega
  | 0, u, n + 1, acc, h, _, _, _ => by
    have h0 : u = 0 := by simp at h; omega
    rw [m_ref6_digits_L2, m_ref6_digits_B2, if_neg (by omega), if_pos h0, List.nil_append]
  | m + 1, u, n + 1, acc, h, hu, hn, ha => by
    rw [m_ref6_digits_L2, m_ref6_digits_B2, dec_step]
    by_cases h0 : u = 0
    · rw [if_neg (by omega), if_pos h0]
    · have hw : i64 (((u % 10 : Nat) : Int) + 1) = ((u % 10 : Nat) : Int) + 1 := by rw [i64_id (by omega)]
      have hw2 : i64 ((u / 10 : Nat) : Int) = ((u / 10 : Nat) : Int) := by rw [i64_id (by omega)]
      rw [if_pos (by omega), if_neg h0, tmod10, tdiv10, need_pos (by rw [hw]; simp; omega), dig_at (by omega), need_pos (by simp; omega), hw2, decL K m (u / 10) n _ (by rw [Nat.pow_succ] at h; omega) (by omega) (by omega) (by simp; omega)]
theorem rDigits {x : Int} (h0 : 0 ≤ x) (h1 : x ≤ 1073741824) : m_ref6_digits x = some (Lib.itoa x) := by
  obtain ⟨u, rfl⟩ : ∃ u : Nat, x = (u : Int) := ⟨x.toNat, by omega⟩
  have hw : i64 (((u % 10 : Nat) : Int) + 1) = ((u % 10 : Nat) : Int) + 1 := by rw [i64_id (by omega)]
  have hw2 : i64 ((u / 10 : Nat) : Int) = ((u / 10 : Nat) : Int) := by rw [i64_id (by omega)]
  have e : (if u / 10 = 0 then [] else Lib.decDigits (u / 10)) ++ [UInt8.ofNat (48 + u % 10)] = Lib.decDigits u := by
    conv => rhs; rw [Lib.decDigits]
    by_cases h10 : u < 10
    · rw [dif_pos h10, if_pos (by omega), show u % 10 = u by omega, List.nil_append]
    · rw [dif_neg h10, if_neg (by omega)]
  unfold m_ref6_digits Lib.itoa
  rw [tmod10, tdiv10, need_pos (by rw [hw]; simp; omega), jn_eq, dig_at (by omega), hw2, decL _ 10 (u / 10) FU _ (by omega) (by omega) (by have := FU_ge; omega) (by simp), e, if_neg (by omega), Int.toNat_natCast]
/-! ### Joining -/
theorem rJ {l : List (List UInt8)} (hl : l.length ≤ 1000000) (K : List UInt8 → Option (List UInt8)) : ∀ (u : List (List UInt8)) (j n : Nat) (acc : List UInt8), l.drop j = u → j + u.length = l.length → 0 < j → u.length < n → acc.length + sumL u 2 ≤ 1000000000000000 → m_ref6_comma_L2 l K n acc (j : Int) = K (acc ++ Lib.joinTail [44, 32] u)
  | [], j, n, acc, hd, hj, h0, hn, _ => by
    obtain ⟨n, rfl⟩ : ∃ q, n = q + 1 := ⟨n - 1, by omega⟩
    simp only [List.length_nil] at hj
    rw [m_ref6_comma_L2, m_ref6_comma_B2, if_neg (by omega)]; simp [Lib.joinTail]
  | x :: u, j, n, acc, hd, hj, h0, hn, hs => by
    obtain ⟨n, rfl⟩ : ∃ q, n = q + 1 := ⟨n - 1, by omega⟩
    simp only [List.length_cons] at hj hn
    rw [sumL_cons] at hs
    have hja : j < l.length := by omega
    have h1 : l[j] = x ∧ l.drop (j + 1) = u := by rw [List.drop_eq_getElem_cons hja] at hd; exact ⟨(List.cons.inj hd).1, (List.cons.inj hd).2⟩
    rw [m_ref6_comma_L2, m_ref6_comma_B2, if_pos (by omega), jn_eq, if_pos (by omega), need_pos (by simp; omega)]
    dsimp only
    rw [need_pos (by omega), gi_nat hja, h1.1, need_pos (by simp; omega), i64s (by omega), rJ hl K u (j + 1) n _ h1.2 (by omega) (by omega) (by omega) (by simp; omega), joinTail_cons]
    simp only [List.append_assoc]
theorem rComma {l : List (List UInt8)} (hl : l.length ≤ 1000000) (hs : sumL l 2 ≤ 1000000000000000) : m_ref6_comma l = some (Lib.join l [44, 32]) := by
  unfold m_ref6_comma
  rw [jn_eq]
  obtain ⟨n, hn⟩ := fuk 1 (by omega)
  match l, hl, hs with
  | [], _, _ => rw [hn, m_ref6_comma_L2, m_ref6_comma_B2, if_neg (by simp)]; simp [Lib.join_nil]
  | x :: u, hl, hs =>
    rw [sumL_cons] at hs
    simp only [List.length_cons] at hl
    have hFU := FU_ge
    have e1 : i64 ((0 : Int) + 1) = ((1 : Nat) : Int) := by rw [i64_id (by omega)]; omega
    rw [hn, m_ref6_comma_L2, m_ref6_comma_B2, if_pos (by rw [List.length_cons]; omega), jn_eq, if_neg (by omega)]
    dsimp only
    rw [need_pos (by rw [List.length_cons]; omega), show gi (x :: u) 0 = x from rfl, need_pos (by simp; omega), e1, List.nil_append, rJ (l := x :: u) (by simp; omega) _ u 1 n _ rfl (by simp; omega) (by omega) (by omega) (by omega), Lib.join_cons]
/-! ### Texts -/
theorem rTxL {self : List Nd → List (List UInt8) → Option (List UInt8)} {nm : List (List UInt8)} {d : Nat} {ks0 : List (List Nd)} (h9 : ks0.length ≤ 9) (hself : ∀ A ∈ ks0, ∀ X, Tx nm d A X → self A nm = some X) (K : List (List UInt8) → Option (List UInt8)) :
    ∀ (ks : List (List Nd)) (ls : List (List UInt8)) (j n : Nat) (acc : List (List UInt8)), ks0.drop j = ks → Tw (Tx nm d) ks ls → j + ks.length = ks0.length → ks.length < n → acc.length ≤ j → m_ref6_text_L2 self nm ks0 K n acc (j : Int) = K (acc ++ ls)
  | [], [], j, n, acc, _, _, hj, hn, _ => by
    obtain ⟨n, rfl⟩ : ∃ q, n = q + 1 := ⟨n - 1, by omega⟩
    simp only [List.length_nil] at hj
    rw [m_ref6_text_L2, m_ref6_text_B2, if_neg (by omega)]; simp
  | [], _ :: _, _, _, _, _, h, _, _, _ => h.elim
  | _ :: _, [], _, _, _, _, h, _, _, _ => h.elim
  | A :: ks, X :: ls, j, n, acc, hd, ht, hj, hn, ha => by
    obtain ⟨n, rfl⟩ : ∃ q, n = q + 1 := ⟨n - 1, by omega⟩
    simp only [List.length_cons] at hj hn
    have hja : j < ks0.length := by omega
    have h1 : ks0[j] = A ∧ ks0.drop (j + 1) = ks := by rw [List.drop_eq_getElem_cons hja] at hd; exact ⟨(List.cons.inj hd).1, (List.cons.inj hd).2⟩
    rw [m_ref6_text_L2, m_ref6_text_B2, if_pos (by omega), need_pos (by omega), gi_nat hja, h1.1, hself A (by rw [← h1.1]; exact List.getElem_mem hja) X ht.1, bnd1_mk, need_pos (by simp; omega), i64s (by omega), rTxL h9 hself K ks ls (j + 1) n _ h1.2 ht.2 (by omega) (by omega) (by simp; omega), List.append_assoc]
    rfl
theorem rTx {nm : List (List UInt8)} (hnm : NmOk nm) (hnl : nm.length ≤ 1048576) : ∀ (d n : Nat), d < n → ∀ (A : List Nd) (X : List UInt8), Tx nm d A X → A.length ≤ 512 → m_ref6_text_S n A nm = some X
  | _, 0, h, _, _, _, _ => by omega
  | 0, n + 1, _, _, _, h, _ => h.elim
  | d + 1, n + 1, hn, A, X, ⟨k, m, ks, ls, hA, hf, hks, htw, hX⟩, hl => by
    subst hA hX
    have hp := wParts hks hf hl
    simp only [List.length_cons] at hl
    have hk9 := fm_kids hf
    dsimp only at hk9
    have hi := itoa_len hk9.2.2.1 hk9.2.2.2
    have hlen := htw.len
    have hs := tw_get hnm htw (by omega)
    have hfl : fmB (k, m, (ls.length : Int)) = true := by rw [← hlen]; exact hf
    obtain ⟨c1, c2, c3⟩ := kind_kids hfl
    have e0 : ∀ K, m_ref6_text_L2 (m_ref6_text_S n) nm ks K FU [] 0 = K ls := fun K => (rTxL (by omega) (fun A hA X h => rTx hnm hnl d n (by omega) A X h (by
      have : A.length ≤ ks.flatten.length := by
        obtain ⟨a, b, e⟩ := List.append_of_mem hA
        rw [e]; simp; omega
      omega)) K ks ls 0 FU [] rfl htw (by omega) (by have := FU_ge; omega) (by simp)).trans (by rw [List.nil_append])
    have g0 : gi ((k, m, (ks.length : Int)) :: ks.flatten) 0 = (k, m, (ks.length : Int)) := rfl
    have hl1 : (0 : Int) ≤ 0 ∧ 0 < (List.length ((k, m, (ks.length : Int)) :: ks.flatten) : Int) := by rw [List.length_cons]; omega
    rw [m_ref6_text_S, m_ref6_text_F, hp, bnd1_mk, jn_eq, e0, need_pos hl1, g0]
    dsimp only
    unfold wrN
    by_cases e1 : k = 1
    · rw [if_pos e1, if_pos e1, need_pos hl1, rDigits hk9.2.2.1 hk9.2.2.2, bnd1_mk, need_pos (by simp; omega)]
    rw [if_neg e1, if_neg e1]
    by_cases e2 : k = 2
    · rw [if_pos e2, if_pos e2]
    rw [if_neg e2, if_neg e2]
    by_cases e3 : k = 3
    · rw [if_pos e3, if_pos e3]
    rw [if_neg e3, if_neg e3]
    by_cases e4 : k = 4
    · rw [if_pos e4, if_pos e4]
    rw [if_neg e4, if_neg e4]
    by_cases e5 : k = 5
    · rw [if_pos e5, if_pos e5]
    rw [if_neg e5, if_neg e5]
    by_cases e6 : k = 6
    · rw [if_pos e6, if_pos e6, need_pos hl1]
      by_cases hm : m < (nm.length : Int)
      · rw [if_pos hm, if_pos hm, need_pos hl1, need_pos (by omega)]
      · rw [if_neg hm, if_neg hm, need_pos hl1, rDigits hk9.2.2.1 hk9.2.2.2, bnd1_mk, need_pos (by simp; omega)]
    rw [if_neg e6, if_neg e6]
    by_cases e7 : k = 7
    · rw [if_pos e7, if_pos e7]
      match ls, c1 (.inl e7), hs with
      | [a], _, hs => simp only [sumL, List.map_cons, List.map_nil, List.sum_cons, List.sum_nil] at hs; rw [need_pos (by simp), need_pos (by simp [gi]; omega), need_pos (by simp [gi]; omega)]
    rw [if_neg e7, if_neg e7]
    by_cases e8 : k = 8
    · rw [if_pos e8, if_pos e8]
      match ls, c1 (.inr e8), hs with
      | [a], _, hs => simp only [sumL, List.map_cons, List.map_nil, List.sum_cons, List.sum_nil] at hs; rw [need_pos (by simp), need_pos (by simp [gi]; omega), need_pos (by simp [gi]; omega)]
    rw [if_neg e8, if_neg e8]
    by_cases e9 : k = 9
    · rw [if_pos e9, if_pos e9]
      match ls, c2 (.inl e9), hs with
      | [a, b], _, hs => simp only [sumL, List.map_cons, List.map_nil, List.sum_cons, List.sum_nil] at hs; rw [need_pos (by simp), need_pos (by simp [gi]; omega), need_pos (by simp [gi]; omega), need_pos (by simp), need_pos (by simp [gi]; omega), need_pos (by simp [gi]; omega)]
    rw [if_neg e9, if_neg e9]
    by_cases e12 : k = 12
    · rw [if_pos e12, if_pos e12]
      match ls, c2 (.inr (.inl e12)), hs with
      | [a, b], _, hs => simp only [sumL, List.map_cons, List.map_nil, List.sum_cons, List.sum_nil] at hs; rw [need_pos (by simp), need_pos (by simp [gi]; omega), need_pos (by simp [gi]; omega), need_pos (by simp), need_pos (by simp [gi]; omega), need_pos (by simp [gi]; omega)]
    rw [if_neg e12, if_neg e12]
    by_cases e13 : k = 13
    · rw [if_pos e13, if_pos e13]
      match ls, c2 (.inr (.inr e13)), hs with
      | [a, b], _, hs => simp only [sumL, List.map_cons, List.map_nil, List.sum_cons, List.sum_nil] at hs; rw [need_pos (by simp), need_pos (by simp [gi]; omega), need_pos (by simp [gi]; omega), need_pos (by simp), need_pos (by simp [gi]; omega), need_pos (by simp [gi]; omega)]
    rw [if_neg e13, if_neg e13]
    have hj := join_len ls
    have hj2 := join_len (ls.take (ls.length - 1))
    have hj3 := sumL_take ls 2 (ls.length - 1)
    by_cases e10 : k = 10
    · rw [if_pos e10, if_pos e10, rComma (by omega) (by omega), bnd1_mk, need_pos (by simp; omega), need_pos (by simp; omega)]
    have e11 : k = 11 := by
      have := fm_kinds hf
      dsimp only at this; omega
    have hpos := c3 e11
    have hix : i64 ((ls.length : Int) - 1) = ((ls.length - 1 : Nat) : Int) := by rw [i64_id (by omega)]; omega
    have hg : (gi ls ((ls.length - 1 : Nat) : Int)).length ≤ sumL ls 2 := by
      rw [gi_nat (by omega)]; exact sum_mem (List.getElem_mem _)
    rw [if_neg e10, if_neg e10, hix, need_pos (by omega), Int.toNat_natCast, rComma (by simp; omega) (by omega), bnd1_mk, need_pos (by simp; omega), need_pos (by simp; omega), need_pos (by omega), need_pos (by simp; omega)]
theorem formats {nm : List (List UInt8)} (hnm : NmOk nm) (hnl : nm.length ≤ 1048576) (t : List Nd) : ∃ X, m_types_Format t nm = some X ∧ m_ref6_Format t nm = some X := by
  unfold m_types_Format m_ref6_Format
  rw [vValid, wValid, bnd1_mk, bnd1_mk]
  cases hv : vdB t with
  | false => exact ⟨[], rfl, rfl⟩
  | true =>
    have ht := vd_tr.1 hv
    have hFU := FU_ge
    obtain ⟨X, h1, h2⟩ := vTx hnm hnl 64 FU (by omega) t ht.1 ht.2
    have h3 := h2 []
    rw [List.append_nil] at h3
    refine ⟨X, ?_, ?_⟩
    · rw [Bool.not_true, if_neg (by simp)]
      unfold m_types_text
      rw [h3, bnd1_mk]
    · rw [Bool.not_true, if_neg (by simp)]
      unfold m_ref6_text
      rw [rTx hnm hnl 64 FU (by omega) t X h1 ht.2, bnd1_mk]
theorem desL {nm : List (List UInt8)} (hnm : NmOk nm) (hnl : nm.length ≤ 1048576) {u : List Nd} (hu : u.length ≤ 1000000) (K : Unit → Option Bool) : ∀ (m j n : Nat) (t : List Nd), j + m = 2 → m < n → t.length ≤ 1000000 → m_law7_TypesDescribe_L2 nm K n t u (j : Int) = K ()
  | 0, j, n, t, hj, hn, _ => by
    obtain ⟨n, rfl⟩ : ∃ q, n = q + 1 := ⟨n - 1, by omega⟩
    rw [m_law7_TypesDescribe_L2, m_law7_TypesDescribe_B2, if_neg (by omega)]
  | m + 1, j, n, t, hj, hn, ht => by
    obtain ⟨n, rfl⟩ : ∃ q, n = q + 1 := ⟨n - 1, by omega⟩
    obtain ⟨X, f1, f2⟩ := formats hnm hnl t
    have hvl : (vrs t).length ≤ t.length := Nat.le_trans (vgo_len t []) (by simp)
    have hE : m_types_Equal t u = some (decide (t = u)) := by
      unfold m_types_Equal
      rw [vEqS t u (by omega), bnd1_mk]
    rw [m_law7_TypesDescribe_L2, m_law7_TypesDescribe_B2, if_pos (by omega), jn_eq, vValid, bnd1_mk, wValid, bnd1_mk, if_neg (by simp), hE, bnd1_mk, wEqual t u (by omega), bnd1_mk, if_neg (by simp), vVarsB ht, bnd1_mk, wVars ht, bnd1_mk, eqInt _ (by omega), bnd1_mk, Bool.not_true, if_neg (by simp), vCanon, bnd1_mk, wCanon, bnd1_mk, eqNode _ (by have := canR_len t; omega), bnd1_mk, Bool.not_true, if_neg (by simp), f1, bnd1_mk, f2, bnd1_mk, decide_eq_false (by simp)]
    dsimp only
    rw [if_neg (by simp), i64s (by omega)]
    exact desL hnm hnl hu K m (j + 1) n u (by omega) (by omega) hu
theorem typesDescribe_true (t : List Nd) (c : List Int) (nm : List (List UInt8)) (_ : t.length ≤ maxLen ∧ ∀ x ∈ t, (Lit.int .i64 x.1).wf = true ∧ (Lit.int .i64 x.2.1).wf = true ∧ (Lit.int .i64 x.2.2).wf = true) (hc : c.length ≤ maxLen ∧ ∀ x ∈ c, (Lit.int .i64 x).wf = true) (_ : nm.length ≤ maxLen ∧ ∀ x ∈ nm, x.length ≤ maxLen)
    (hsz : (szL (fun _ : Nd => 1 + 1 + 1) t + 1) + (szL (fun _ : Int => 1) c + 1) + (szL (fun x : List UInt8 => x.length + 1) nm + 1) ≤ 1048576) : m_law7_TypesDescribe t c nm = some true := by
  have h1 : ∀ l : List Nd, 3 * l.length ≤ szL (fun _ : Nd => 1 + 1 + 1) l := fun l => by
    induction l with
    | nil => simp
    | cons x l ih => simp only [szL, List.map_cons, List.sum_cons, List.length_cons] at ih ⊢; omega
  have h1 := h1 t
  have h2 := szL_len (sz := fun x : List UInt8 => x.length + 1) (fun x => by omega) nm
  have hnm : NmOk nm := fun x hx => by have := szL_mem (sz := fun x : List UInt8 => x.length + 1) hx; omega
  obtain ⟨u, i1, e1, _, hu⟩ := vTyp (V := 3) (by omega) (by omega) 3 (by omega) (gs_new hc) 4 (by omega)
  have hul := vdB_len (hu.vd (by omega))
  have hL := desL hnm (by omega) (u := u) (by omega) (fun _ => bnd1 m_law7_awake (fun y624 => some y624)) 2 0 FU t rfl (by have := FU_ge; omega) (by omega)
  unfold m_law7_TypesDescribe m_gen_New
  rw [bnd1_mk]
  dsimp only
  rw [e1, bnd1_mk, jn_eq]
  exact hL.trans (by rw [awake7, bnd1_mk])
end Go.Proofs.YtdfdjgolijckfaaDoor
/- TypesDescribe: for every input the call returns true, and the arguments read as before. Condition: what the arguments hold is of bulk at most 1048576, as the given statement has it. -/
namespace Go.Proofs.YtdfdjgolijckfaaDoor
open Go.ChangeShapes Go.WideShapes Go.ChangeAt Go.RowKit

theorem o_int : Opens Tryd.prog 3 1 (fun x : Int => [.exact (.int .i64 x)]) (fun _ => 1) (fun x => (Lit.int .i64 x).wf = true) := fun e0 W fuel cs y h => (opens_int Tryd.underlying3) e0 W fuel cs y h
theorem o_api_TypeNode : Opens Tryd.prog 41 3 c_api_TypeNode (fun x => (fun _ => 1) x.1 + (fun _ => 1) x.2.1 + (fun _ => 1) x.2.2) (fun x => (fun x => (Lit.int .i64 x).wf = true) x.1 ∧ (fun x => (Lit.int .i64 x).wf = true) x.2.1 ∧ (fun x => (Lit.int .i64 x).wf = true) x.2.2) := fun e0 W fuel cs y h => (opens_struct3 Tryd.underlying41 (by kernel_rfl) rfl rfl rfl (by kernel_rfl) (by kernel_rfl) (by kernel_rfl) o_int o_int o_int) e0 W fuel cs y h
theorem o_L_api_TypeNode : Opens Tryd.prog 22 1 (fun xs : List (Int × Int × Int) => [.row 3 c_api_TypeNode xs]) (fun xs => szL (fun x => (fun _ => 1) x.1 + (fun _ => 1) x.2.1 + (fun _ => 1) x.2.2) xs + 1) (fun xs => xs.length ≤ maxLen ∧ ∀ x ∈ xs, (fun x => (fun x => (Lit.int .i64 x).wf = true) x.1 ∧ (fun x => (Lit.int .i64 x).wf = true) x.2.1 ∧ (fun x => (Lit.int .i64 x).wf = true) x.2.2) x) := fun e0 W fuel cs y h => (opens_slice Tryd.underlying22 (by kernel_rfl) (by decide) o_api_TypeNode) e0 W fuel cs y h
theorem o_L_int : Opens Tryd.prog 23 1 (fun xs : List Int => [.row 1 c_int xs]) (fun xs => szL (fun _ => 1) xs + 1) (fun xs => xs.length ≤ maxLen ∧ ∀ x ∈ xs, (fun x => (Lit.int .i64 x).wf = true) x) := fun e0 W fuel cs y h => (opens_slice Tryd.underlying23 (by kernel_rfl) (by decide) o_int) e0 W fuel cs y h
theorem o_string : Opens Tryd.prog 9 1 (fun x : List UInt8 => [.exact (.string (bs x))]) (fun x => x.length + 1) (fun x => x.length ≤ maxLen) := fun e0 W fuel cs y h => (opens_str Tryd.underlying9) e0 W fuel cs y h
theorem o_L_string : Opens Tryd.prog 54 1 (fun xs : List (List UInt8) => [.row 1 c_string xs]) (fun xs => szL (fun x => x.length + 1) xs + 1) (fun xs => xs.length ≤ maxLen ∧ ∀ x ∈ xs, (fun x => x.length ≤ maxLen) x) := fun e0 W fuel cs y h => (opens_slice Tryd.underlying54 (by kernel_rfl) (by decide) o_string) e0 W fuel cs y h
theorem door_met (os : Os) (args : Array Value) : laidMetH Tryd.prog Rows.typesDescribeUptoRow.laid ((World.doorLaid Tryd.prog 400 os).forCall (fun _ _ => 0) ⟨#[], args, []⟩).memory :=
  laidMetH_of_parts3 (fuel := 8) (laidMet_of_run' 8 (by kernel_rfl) (by kernel_rfl)) (by kernel_rfl) (by kernel_rfl)
theorem witness_row (os : Os) {H : Type} (enc : TypeId × Value → H) :
    (Rows.OpenSpec.upto Rows.typesDescribeSpec).preRow enc Tryd.prog Tryd.f9 Rows.typesDescribeUptoRow.domain false Rows.typesDescribeUptoRow.laid ((World.doorLaid Tryd.prog 400 os).forCall (fun _ _ => 0) ⟨#[], #[.slice none 0 0, .slice none 0 0, .slice none 0 0], []⟩).memory #[.slice none 0 0, .slice none 0 0, .slice none 0 0] := by
  have hw : (DataW.whole enc Tryd.prog ((World.doorLaid Tryd.prog 400 os).forCall (fun _ _ => 0) ⟨#[], #[.slice none 0 0, .slice none 0 0, .slice none 0 0], []⟩).memory Tryd.f9.params.toList (Rows.OpenSpec.upto Rows.typesDescribeSpec).vars false #[.slice none 0 0, .slice none 0 0, .slice none 0 0].toList 8).map (fun x => (x.1, x.2.1)) =
      some ([.nil, .nil, .nil], []) := by kernel_rfl
  obtain ⟨⟨x1, x2, x3⟩, hx, hx1⟩ := Option.map_eq_some_iff.1 hw
  simp only [Prod.mk.injEq] at hx1
  obtain ⟨rfl, rfl⟩ := hx1
  exact OpenSpec.preRow_of_cond 8 hx (by kernel_rfl) (fun k hk => by cases hk; kernel_rfl) (by kernel_rfl) (door_met os _)
set_option maxRecDepth 100000 in
theorem typesDescribe_lifted (os : Os) (started : os.Started) (H : Type) (enc : TypeId × Value → H) (F : Stop.Interp) :
    ReturnsInHanded {} Tryd.checked os 9 .any ((Rows.OpenSpec.upto Rows.typesDescribeSpec).preRow enc Tryd.prog Tryd.f9 Rows.typesDescribeUptoRow.domain false Rows.typesDescribeUptoRow.laid) (((Rows.OpenSpec.upto Rows.typesDescribeSpec).at F).post enc Tryd.prog Tryd.f9 false true false false) := by
  refine returnsInHanded_of_row (C := Tryd.checked) (s := (Rows.OpenSpec.upto Rows.typesDescribeSpec)) Tryd.own started (by kernel_rfl) Tryd.func9
    (witness_row_atRef (enc := enc) (C := Tryd.checked) false (World.doorLaid Tryd.prog 400 os) #[.slice none 0 0, .slice none 0 0, .slice none 0 0] rfl (by kernel_rfl) (by kernel_rfl) (by kernel_rfl) (witness_row os enc)) ?_
  intro W base args ds gs before hval0 hW _ hk0 _ hL _ _
  have hk := hk0 _ rfl
  have hval : ∀ (j : Nat) t v, Tryd.f9.params[j]? = some t → args[j]? = some v → Value.okWide Tryd.prog W .any base t v := hval0
  have hW' := hW
  obtain ⟨p, q, hA0, hV, rfl, hfz, hnd⟩ := hW
  have hA : DataW.TrodAll enc Tryd.prog W 0 (fun _ => true) true Tryd.f9.params.toList args.toList ds p := hA0
  rw [Tryd.params9] at hA hval
  obtain ⟨v0, vs0, d0, ds0, p0, q0, hargs, rfl, rfl, h0, r0⟩ := trodAll_cons hA
  obtain ⟨v1, vs1, d1, ds1, p1, q1, rfl, rfl, rfl, h1, r1⟩ := trodAll_cons r0
  obtain ⟨v2, vs2, d2, ds2, p2, q2, rfl, rfl, rfl, h2, r2⟩ := trodAll_cons r1
  obtain ⟨rfl, rfl, rfl⟩ := trodAll_nil r2
  obtain rfl : args = #[v0, v1, v2] := by cases args; simp_all
  obtain ⟨rfl, rfl⟩ := trodVars_none hV
  clear hA0
  simp only [List.append_nil] at hW'
  have hlt := hW'.lt
  obtain ⟨x0, qq0, g0, s0⟩ := arg_open o_L_api_TypeNode (plain_slice Tryd.underlying22 (hval 0 22 v0 rfl rfl)) h0
  obtain ⟨x1, qq1, g1, s1⟩ := arg_open o_L_int (plain_slice Tryd.underlying23 (hval 1 23 v1 rfl rfl)) h1
  obtain ⟨x2, qq2, g2, s2⟩ := arg_open o_L_string (plain_slice Tryd.underlying54 (hval 2 54 v2 rfl rfl)) h2
  have hsz : (fun xs => szL (fun x => (fun _ => 1) x.1 + (fun _ => 1) x.2.1 + (fun _ => 1) x.2.2) xs + 1) x0 + (fun xs => szL (fun _ => 1) xs + 1) x1 + (fun xs => szL (fun x => x.length + 1) xs + 1) x2 ≤ 1048576 := by
    have hk' := of_decide_eq_true hk
    simp only [List.append_nil, Rows.uptoBulkAll] at hk'
    try simp only [] at s0 s1 s2
    try simp only []
    omega
  have htab := tab_laid hL (by kernel_rfl)
  refine (Fun.callT (m_law7_TypesDescribe_ok x0 x1 x2 true (typesDescribe_true x0 x1 x2 qq0 qq1 qq2 hsz)) (vs := [v0, v1, v2]) ⟨g0.1, g1.1, g2.1, trivial⟩ htab.2 htab.1).mono fun e W' ⟨he, hb⟩ => ?_
  subst he
  exact ⟨_, rfl, post_of_below (pa := p0 ++ (p1 ++ (p2 ++ []))) (pv := []) hW' (fun _ _ _ => trodAll_cons_mk (shut_bool Tryd.underlying4 true) trodAll_mk0)
    (fun sp hsp => trodAll_cons_mk (trod_after (by kernel_rfl) (of_decide_eq_true (by kernel_rfl)) h0 hb (fun x hx => hlt x (by simp [hx])) (fun x hx => by simp [hx]) sp hsp) (trodAll_cons_mk (trod_after (by kernel_rfl) (of_decide_eq_true (by kernel_rfl)) h1 hb (fun x hx => hlt x (by simp [hx])) (fun x hx => by simp [hx]) sp hsp) (trodAll_cons_mk (trod_after (by kernel_rfl) (of_decide_eq_true (by kernel_rfl)) h2 hb (fun x hx => hlt x (by simp [hx])) (fun x hx => by simp [hx]) sp hsp) (trodAll_mk0))))
    (fun _ _ => rfl) (by simp) hb (ok_one (by kernel_rfl) rfl (okWide_bool_mk Tryd.underlying4 true))⟩

theorem typesDescribe_holds : Rows.TypesDescribeUptoSaid :=
  OpenClaim.holds_of_cond 9 Tryd.f9 rfl rfl rfl rfl rfl rfl rfl ⟨rfl, rfl, rfl, rfl, rfl⟩ rfl rfl rfl rfl rfl (by kernel_rfl) Tryd.func9 (by kernel_rfl)
    (of_decide_eq_true (by kernel_rfl)) (by unfold Func.isWrapper; first | (rw [if_pos (by decide +kernel)]; kernel_rfl) | (rw [if_neg (by decide +kernel)]; exact ⟨rfl, rfl⟩))
    (fun os started H enc _ F => by rw [OpenClaim.pre_eq_preRow]; exact typesDescribe_lifted os started H enc F)

theorem typesDescribe_card_holds : Rows.TypesDescribeUptoCardSaid :=
  Claim7.holds_tied_plain_at .later [] [.data, .data, .data] true (true, "266afa1125f812094a6acd2f15ec6e17dfc0fe2faf4d68696ad7b3b06d247b04") false
    typesDescribe_holds (fun _ h => by cases h) (by kernel_rfl) (fun _ h => by cases h) typesDescribeUpto_row_tie rfl ⟨rfl, rfl⟩ (by kernel_rfl) rfl
    (fun f fn hf hfn => by
      obtain rfl : f = 9 := Option.some.inj ((show Tryd.prog.funcNamed "cspcheck/cspchecklaw7.TypesDescribe" = some 9 by kernel_rfl).symm.trans hf) |>.symm
      obtain rfl : fn = Tryd.f9 := (Option.some.inj (Tryd.func9.symm.trans hfn)).symm
      exact ⟨by kernel_rfl, fun j t ht => by
        rw [Tryd.params9] at ht
        have hm : t ∈ [22, 23, 54] := by simpa using Array.mem_of_getElem? ht
        have hall : ([22, 23, 54].all fun u => !Tryd.prog.wantsStandIn u) = true := by kernel_rfl
        exact (show Tryd.prog.wantsStandIn t = false by simpa using List.all_eq_true.1 hall t hm)⟩)
    (by kernel_rfl)
end Go.Proofs.YtdfdjgolijckfaaDoor
