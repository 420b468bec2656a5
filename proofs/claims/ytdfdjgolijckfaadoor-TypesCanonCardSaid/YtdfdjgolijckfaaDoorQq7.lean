/- The law of Needs. -/
import Derived.Test.YtdfdjgolijckfaaDoorQq1
import Derived.Test.YtdfdjgolijckfaaDoorQq3
import Derived.Test.YtdfdjgolijckfaaDoorQq6
import Derived.LaidMore
import Derived.Stop.Joined
import Derived.SevenTiedAt
import Derived.Test.YtdfdjgolijckfaaDoorTie
import Derived.Test.YtdfdjgolijckfaaDoorCards
namespace Go.Proofs.YtdfdjgolijckfaaDoor
attribute [local irreducible] FU
theorem vs_bd' {t : List Nd} (h : vdB t = true) {v : Int} (hv : v ∈ vsN t) : 0 ≤ v ∧ v ≤ 1073741824 := by
  obtain ⟨n, a, b, c⟩ := vs_mem hv
  have := fm_kids (vd_fm h n a); omega
theorem gs_new {c : List Int} (hc : c.length ≤ maxLen ∧ ∀ x ∈ c, (Lit.int .i64 x).wf = true) : GS c 0 := ⟨by omega, by omega, by have := hc.1; unfold maxLen at this; omega⟩
end Go.Proofs.YtdfdjgolijckfaaDoor
/- Apply, both ways. -/
namespace Go.Proofs.YtdfdjgolijckfaaDoor
attribute [local irreducible] FU
/-- What the generator builds is valid. -/
theorem Ty.aft {V : Int} : ∀ {d : Nat} {a : List Nd}, Ty V d a → ∀ (pre post : List Nd) (D : Nat), d ≤ D → aft (pre ++ (a ++ post)) D pre.length = some (pre.length + a.length)
  | _, _, .leaf (k := k) (m := m) h hv, pre, post, D, hD => by
    obtain ⟨D, rfl⟩ : ∃ q, D = q + 1 := ⟨D - 1, by omega⟩
    rw [Go.Proofs.YtdfdjgolijckfaaDoor.aft, List.getElem?_append_right (Nat.le_refl _), Nat.sub_self]
    show (if fmB (k, m, 0) = true then _ else none) = _
    rw [if_pos h]; rfl
  | _, _, .one (a := a) (k := k) h ha, pre, post, D, hD => by
    obtain ⟨D, rfl⟩ : ∃ q, D = q + 1 := ⟨D - 1, by omega⟩
    rw [Go.Proofs.YtdfdjgolijckfaaDoor.aft, List.getElem?_append_right (Nat.le_refl _), Nat.sub_self]
    show (if fmB (k, 0, 1) = true then aftK _ 1 (pre.length + 1) else none) = _
    have h1 := ha.aft (pre ++ [(k, 0, 1)]) post D (by omega)
    rw [List.append_assoc, List.length_append, List.length_singleton] at h1
    rw [if_pos h, aftK, List.cons_append]
    rw [List.singleton_append] at h1
    rw [h1, Option.bind_some, aftK, List.length_cons]
    congr 1; omega
  | _, _, .two (a := a) (b := b) (k := k) h ha hb, pre, post, D, hD => by
    obtain ⟨D, rfl⟩ : ∃ q, D = q + 1 := ⟨D - 1, by omega⟩
    rw [Go.Proofs.YtdfdjgolijckfaaDoor.aft, List.getElem?_append_right (Nat.le_refl _), Nat.sub_self]
    show (if fmB (k, 0, 2) = true then aftK _ 2 (pre.length + 1) else none) = _
    have h1 := ha.aft (pre ++ [(k, 0, 2)]) (b ++ post) D (by omega)
    have h2 := hb.aft (pre ++ [(k, 0, 2)] ++ a) post D (by omega)
    rw [if_pos h, aftK, List.cons_append]
    simp only [List.append_assoc, List.length_append, List.length_cons, List.length_nil, List.singleton_append, List.cons_append, List.nil_append, Nat.zero_add] at h1 h2 ⊢
    rw [h1, Option.bind_some, aftK, show pre.length + 1 + a.length = pre.length + (a.length + 1) by omega, h2, Option.bind_some, aftK]
    congr 1; omega
theorem Ty.vd {V : Int} {d : Nat} {a : List Nd} (h : Ty V d a) (hd : d ≤ 9) : vdB a = true := by
  have h1 := h.aft [] [] 64 (by omega)
  have h2 := h.len
  have : 2 ^ d ≤ 2 ^ 9 := Nat.pow_le_pow_right (by omega) hd
  simp only [List.nil_append, List.append_nil, List.length_nil, Nat.zero_add] at h1
  exact decide_eq_true ⟨h2.2, by omega, h1⟩
abbrev Bd := Int × List Nd
end Go.Proofs.YtdfdjgolijckfaaDoor
/- Apply of the reference; exchanging variables; the law of Apply. -/
namespace Go.Proofs.YtdfdjgolijckfaaDoor
attribute [local irreducible] FU
theorem eqNode_loop (l : List Nd) (hl : l.length ≤ 4611686018427387904) (K : Unit → Option Bool) : ∀ (m j n : Nat), j + m = l.length → m < n → m_help_Equal_api_TypeNode_L2 l l K n (j : Int) = K ()
  | 0, j, n, hj, hn => by
    obtain ⟨n, rfl⟩ : ∃ q, n = q + 1 := ⟨n - 1, by omega⟩
    rw [m_help_Equal_api_TypeNode_L2, m_help_Equal_api_TypeNode_B2, if_neg (by omega)]
  | m + 1, j, n, hj, hn => by
    obtain ⟨n, rfl⟩ : ∃ q, n = q + 1 := ⟨n - 1, by omega⟩
    rw [m_help_Equal_api_TypeNode_L2, m_help_Equal_api_TypeNode_B2, if_pos (by omega), need_pos (by omega), need_pos (by omega), if_neg (fun h => h rfl), i64s (by omega)]
    exact eqNode_loop l hl K m (j + 1) n (by omega) (by omega)
theorem eqNode (l : List Nd) (hl : l.length ≤ 4611686018427387904) : m_help_Equal_api_TypeNode l l = some true := by
  unfold m_help_Equal_api_TypeNode
  rw [if_neg (fun h => h rfl), jn_eq]
  exact eqNode_loop l hl _ l.length 0 FU (by omega) (by have := FU_ge; omega)
/-! ### Exchanging two variables -/
/-- What is valid depends on the numbers of children alone. -/
theorem aft_map {f : Nd → Nd} {t : List Nd} (hf : ∀ n ∈ t, (f n).2.2 = n.2.2 ∧ fmB (f n) = fmB n) : ∀ (d i : Nat), aft (t.map f) d i = aft t d i
  | 0, _ => rfl
  | d + 1, i => by
    rw [aft, aft, List.getElem?_map]
    cases hx : t[i]? with
    | none => rfl
    | some n =>
      obtain ⟨h1, h2⟩ := hf n (List.mem_of_getElem? hx)
      have : aft (t.map f) d = aft t d := funext fun j => aft_map hf d j
      simp only [Option.map_some, h1, h2, this]
theorem vd_map {f : Nd → Nd} {t : List Nd} (hf : ∀ n ∈ t, (f n).2.2 = n.2.2 ∧ fmB (f n) = fmB n) : vdB (t.map f) = vdB t := by
  unfold vdB
  rw [List.length_map, aft_map hf]
/-! ### The law -/
end Go.Proofs.YtdfdjgolijckfaaDoor
/- Types as trees laid out in rows. -/
namespace Go.Proofs.YtdfdjgolijckfaaDoor
attribute [local irreducible] FU
/-- A tree, at most d deep. -/
def Tr : Nat → List Nd → Prop
  | 0, _ => False
  | d + 1, t => ∃ (k m : Int) (ks : List (List Nd)), t = (k, m, (ks.length : Int)) :: ks.flatten ∧ fmB (k, m, (ks.length : Int)) = true ∧ ∀ x ∈ ks, Tr d x
theorem Tr.up : ∀ {d : Nat} {t : List Nd}, Tr d t → Tr (d + 1) t
  | 0, _, h => h.elim
  | d + 1, _, ⟨k, m, ks, h1, h2, h3⟩ => ⟨k, m, ks, h1, h2, fun x hx => (h3 x hx).up⟩
theorem Tr.le {d e : Nat} {t : List Nd} (h : Tr d t) (he : d ≤ e) : Tr e t := by
  induction e with
  | zero =>
    have : d = 0 := by omega
    subst this; exact h
  | succ e ih =>
    rcases Nat.eq_or_lt_of_le he with rfl | h2
    · exact h
    · exact (ih (by omega)).up
theorem Tr.pos {d : Nat} {t : List Nd} (h : Tr d t) : 0 < t.length := by
  match d, h with
  | 0, h => exact h.elim
  | d + 1, ⟨k, m, ks, h1, _, _⟩ => rw [h1]; simp
theorem trs_aft {D : Nat} (hT : ∀ (a pre post : List Nd), Tr D a → aft (pre ++ (a ++ post)) D pre.length = some (pre.length + a.length)) : ∀ (ks : List (List Nd)) (pre post : List Nd), (∀ x ∈ ks, Tr D x) → aftK (aft (pre ++ (ks.flatten ++ post)) D) ks.length pre.length = some (pre.length + ks.flatten.length)
  | [], pre, post, _ => by simp [aftK]
  | x :: ks, pre, post, h => by
    have h1 := hT x pre (ks.flatten ++ post) (h x List.mem_cons_self)
    have h2 := trs_aft hT ks (pre ++ x) post (fun y hy => h y (List.mem_cons_of_mem _ hy))
    rw [List.length_cons, aftK, List.flatten_cons, List.append_assoc, h1, Option.bind_some]
    rw [List.append_assoc, List.length_append] at h2
    rw [h2, List.length_append]
    congr 1; omega
theorem Tr.aft : ∀ {d : Nat} {a : List Nd} (pre post : List Nd), Tr d a → Go.Proofs.YtdfdjgolijckfaaDoor.aft (pre ++ (a ++ post)) d pre.length = some (pre.length + a.length)
  | 0, _, _, _, h => h.elim
  | d + 1, _, pre, post, ⟨k, m, ks, h1, h2, h3⟩ => by
    subst h1
    rw [Go.Proofs.YtdfdjgolijckfaaDoor.aft, List.getElem?_append_right (Nat.le_refl _), Nat.sub_self]
    show (if fmB (k, m, (ks.length : Int)) = true then aftK _ (ks.length : Int).toNat (pre.length + 1) else none) = _
    have h4 := trs_aft (D := d) (fun a pre post h => h.aft pre post) ks (pre ++ [(k, m, (ks.length : Int))]) post h3
    rw [if_pos h2, Int.toNat_natCast, List.cons_append]
    rw [List.append_assoc, List.singleton_append, List.length_append, List.length_singleton] at h4
    rw [h4, List.length_cons]
    congr 1; omega
theorem aftK_tr {t : List Nd} {D : Nat} (hT : ∀ i k, aft t D i = some k → ∃ a, Tr D a ∧ t.drop i = a ++ t.drop k) : ∀ (m i k : Nat), aftK (aft t D) m i = some k → ∃ ks : List (List Nd), ks.length = m ∧ (∀ x ∈ ks, Tr D x) ∧ t.drop i = ks.flatten ++ t.drop k
  | 0, i, k, h => by simp only [aftK, Option.some.injEq] at h; subst h; exact ⟨[], rfl, by simp, by simp⟩
  | m + 1, i, k, h => by
    rw [aftK] at h
    cases hx : aft t D i with
    | none => rw [hx] at h; cases h
    | some j =>
      rw [hx] at h
      obtain ⟨a, h1, h2⟩ := hT i j hx
      obtain ⟨ks, h3, h4, h5⟩ := aftK_tr hT m j k h
      refine ⟨a :: ks, by simp [h3], fun x hx => ?_, by rw [h2, h5]; simp⟩
      rcases List.mem_cons.1 hx with rfl | hx
      · exact h1
      · exact h4 x hx
theorem aft_tr (t : List Nd) : ∀ (D i k : Nat), aft t D i = some k → ∃ a, Tr D a ∧ t.drop i = a ++ t.drop k
  | 0, i, k, h => by simp [aft] at h
  | D + 1, i, k, h => by
    rw [aft] at h
    cases hx : t[i]? with
    | none => rw [hx] at h; cases h
    | some n =>
      rw [hx] at h
      obtain ⟨hi, he⟩ := List.getElem?_eq_some_iff.1 hx
      dsimp only at h
      split at h
      · rename_i hf
        obtain ⟨ks, h1, h2, h3⟩ := aftK_tr (aft_tr t D) _ _ _ h
        have hk := fm_kids hf
        have hn : n = (n.1, n.2.1, (ks.length : Int)) := by
          rw [h1]; exact Prod.ext rfl (Prod.ext rfl (by dsimp only; omega))
        refine ⟨n :: ks.flatten, ⟨n.1, n.2.1, ks, by rw [← hn], by rw [← hn]; exact hf, h2⟩, ?_⟩
        rw [List.drop_eq_getElem_cons hi, he, h3]; rfl
      · cases h
theorem vd_tr {t : List Nd} : vdB t = true ↔ Tr 64 t ∧ t.length ≤ 512 := by
  constructor
  · intro h
    obtain ⟨h1, h2, h3⟩ := of_decide_eq_true h
    obtain ⟨a, ha, hd⟩ := aft_tr t 64 0 _ h3
    rw [List.drop_zero, List.drop_length, List.append_nil] at hd
    exact ⟨hd ▸ ha, h2⟩
  · rintro ⟨h1, h2⟩
    have h3 := h1.aft [] []
    rw [List.append_nil, List.nil_append, List.length_nil, Nat.zero_add] at h3
    exact decide_eq_true ⟨h1.pos, h2, h3⟩
/-- No tree begins another. -/
theorem Tr.uniq {d e : Nat} {a b r s : List Nd} (ha : Tr d a) (hb : Tr e b) (h : a ++ r = b ++ s) : a = b ∧ r = s := by
  have h1 := (ha.le (Nat.le_max_left d e)).aft [] r
  have h2 := (hb.le (Nat.le_max_right d e)).aft [] s
  simp only [List.nil_append, List.length_nil, Nat.zero_add] at h1 h2
  rw [h, h2] at h1
  exact List.append_inj h (Option.some.inj h1).symm
/-- A row, its variables replaced. -/
def asg (σ : Int → List Nd) (n : Nd) : List Nd := if n.1 = 1 then σ n.2.1 else [n]
abbrev sbt (σ : Int → List Nd) (t : List Nd) : List Nd := t.flatMap (asg σ)
def TrS (σ : Int → List Nd) : Prop := ∀ v, ∃ e, Tr e (σ v)
theorem trs_depth : ∀ (ks : List (List Nd)), (∀ x ∈ ks, ∃ e, Tr e x) → ∃ e, ∀ x ∈ ks, Tr e x
  | [], _ => ⟨0, by simp⟩
  | x :: ks, h => by
    obtain ⟨e1, h1⟩ := h x List.mem_cons_self
    obtain ⟨e2, h2⟩ := trs_depth ks (fun y hy => h y (List.mem_cons_of_mem _ hy))
    refine ⟨max e1 e2, fun y hy => ?_⟩
    rcases List.mem_cons.1 hy with rfl | hy
    · exact h1.le (Nat.le_max_left _ _)
    · exact (h2 y hy).le (Nat.le_max_right _ _)
theorem sbt_flatten (σ : Int → List Nd) (ks : List (List Nd)) : sbt σ ks.flatten = (ks.map (sbt σ)).flatten := by
  induction ks with
  | nil => rfl
  | cons x ks ih => rw [List.flatten_cons, sbt, List.flatMap_append, List.map_cons, List.flatten_cons, ← ih]
theorem sbt_cons (σ : Int → List Nd) (n : Nd) (t : List Nd) : sbt σ (n :: t) = asg σ n ++ sbt σ t := List.flatMap_cons
theorem Tr.sbt {σ : Int → List Nd} (hσ : TrS σ) : ∀ {d : Nat} {a : List Nd}, Tr d a → ∃ e, Tr e (sbt σ a)
  | 0, _, h => h.elim
  | d + 1, _, ⟨k, m, ks, h1, h2, h3⟩ => by
    subst h1
    rw [sbt_cons, asg, sbt_flatten]
    by_cases hk : k = 1
    · subst hk
      have hl : ks.length = 0 := by
        have h4 := h2
        unfold fmB at h4
        rw [if_pos (.inl rfl)] at h4
        have := (of_decide_eq_true h4).1
        dsimp only at this; omega
      obtain rfl := List.eq_nil_of_length_eq_zero hl
      obtain ⟨e, he⟩ := hσ m
      exact ⟨e, by simpa using he⟩
    · obtain ⟨e, he⟩ := trs_depth (ks.map (Go.Proofs.YtdfdjgolijckfaaDoor.sbt σ)) (fun x hx => by
        obtain ⟨y, hy, rfl⟩ := List.mem_map.1 hx
        exact (h3 y hy).sbt hσ)
      refine ⟨e + 1, k, m, ks.map (Go.Proofs.YtdfdjgolijckfaaDoor.sbt σ), ?_, ?_, he⟩
      · rw [if_neg hk, List.length_map]; rfl
      · rw [List.length_map]; exact h2
end Go.Proofs.YtdfdjgolijckfaaDoor
/- Match: what it answers for trees. -/
namespace Go.Proofs.YtdfdjgolijckfaaDoor
attribute [local irreducible] FU
theorem vCloneN (t : List Nd) (h : t.length ≤ 137438953472) : m_slices_Clone_L_api_TypeNode_api_TypeNode t = some t := by
  unfold m_slices_Clone_L_api_TypeNode_api_TypeNode
  rw [nilc_eq (fun e => by subst e; rfl), need_pos (by simp; omega)]; rfl
theorem eqS_loop (a b : List Nd) (hab : a.length = b.length) (hl : a.length ≤ 4611686018427387904) (K : Unit → Option Bool) : ∀ (m j n : Nat), j + m = a.length → m < n → m_slices_Equal_L_api_TypeNode_api_TypeNode_L2 a b K n (j : Int) = if a.drop j = b.drop j then K () else some false
  | 0, j, n, hj, hn => by
    obtain ⟨n, rfl⟩ : ∃ q, n = q + 1 := ⟨n - 1, by omega⟩
    rw [m_slices_Equal_L_api_TypeNode_api_TypeNode_L2, m_slices_Equal_L_api_TypeNode_api_TypeNode_B2, if_neg (by omega), if_pos (by rw [List.drop_of_length_le (by omega), List.drop_of_length_le (by omega)])]
  | m + 1, j, n, hj, hn => by
    obtain ⟨n, rfl⟩ : ∃ q, n = q + 1 := ⟨n - 1, by omega⟩
    have h1 : j < a.length := by omega
    have h2 : j < b.length := by omega
    rw [m_slices_Equal_L_api_TypeNode_api_TypeNode_L2, m_slices_Equal_L_api_TypeNode_api_TypeNode_B2, if_pos (by omega), need_pos (by omega), need_pos (by omega), gi_nat h1, gi_nat h2, List.drop_eq_getElem_cons h1, List.drop_eq_getElem_cons h2, i64s (by omega), eqS_loop a b hab hl K m (j + 1) n (by omega) (by omega)]
    by_cases e : a[j] = b[j]
    · rw [if_neg (fun h => h e)]
      simp only [e, List.cons.injEq, true_and]
    · rw [if_pos e, if_neg (fun h => e (List.cons.inj h).1)]
theorem vEqS (a b : List Nd) (hl : a.length ≤ 4611686018427387904) : m_slices_Equal_L_api_TypeNode_api_TypeNode a b = some (decide (a = b)) := by
  unfold m_slices_Equal_L_api_TypeNode_api_TypeNode
  by_cases h : a.length = b.length
  · rw [if_neg (by omega), jn_eq, show (0 : Int) = ((0 : Nat) : Int) from rfl, eqS_loop a b h hl _ a.length 0 FU (by omega) (by have := FU_ge; omega), List.drop_zero, List.drop_zero]
    by_cases e : a = b
    · rw [if_pos e, decide_eq_true e]
    · rw [if_neg e, decide_eq_false e]
  · rw [if_pos (by omega), decide_eq_false (fun e => h (by rw [e]))]
theorem vAfterT {e : Nat} {B rb : List Nd} (hB : Tr e B) (he : e ≤ 64) (hl : (B ++ rb).length ≤ 512) : m_types_after (B ++ rb) 0 1 = some (B.length : Int) := by
  have h := (hB.le he).aft [] rb
  simp only [List.nil_append, List.length_nil, Nat.zero_add] at h
  have h2 := vAfter hl 64 FU 0 1 (by have := FU_ge; omega) (by omega) (by omega) (by omega)
  unfold m_types_after
  rw [show (0 : Int) = ((0 : Nat) : Int) from rfl, h2, h]; rfl
/-- What holds of the bindings so far. -/
def MInv (m : List Bd) : Prop := NdK m ∧ ∀ x ∈ m, (0 ≤ x.1 ∧ x.1 ≤ 1073741824) ∧ x.2.length ≤ 512 ∧ ∃ e, e ≤ 64 ∧ Tr e x.2
def Ex (m : List Bd) (σ : Int → List Nd) : Prop := ∀ v x, lookL m v = some x → σ v = x
structure MOk (A B : List Nd) (m m' : List Bd) : Prop where
  keep : ∀ v x, lookL m v = some x → lookL m' v = some x
  eq : ∀ σ, Ex m' σ → B = sbt σ A
  det : ∀ σ, TrS σ → Ex m σ → B = sbt σ A → Ex m' σ
  inv : MInv m'
  len : m'.length ≤ m.length + A.length
  keys : ∀ v, lookL m' v ≠ none → lookL m v ≠ none ∨ v ∈ vsN A
  all : ∀ v ∈ vsN A, lookL m' v ≠ none
abbrev MR := List Nd × List Nd × Bool × List Bd
def MFail (A B : List Nd) (m : List Bd) (r : MR) : Prop := r.2.2.1 = false ∧ ∀ σ, TrS σ → Ex m σ → B ≠ sbt σ A
theorem putL_len {β : Type} (m : List (Int × β)) (v : Int) (x : β) : (putL m v x).length ≤ m.length + 1 := by
  induction m with
  | nil => simp [putL]
  | cons a l ih => rw [putL]; split <;> simp <;> omega
theorem vsN_app (a b : List Nd) : vsN (a ++ b) = vsN a ++ vsN b := by
  induction a with
  | nil => rfl
  | cons n a ih => rw [List.cons_append, vsN, vsN, ih]; split <;> rfl
theorem MInv.put {m : List Bd} (h : MInv m) {v : Int} (hv : 0 ≤ v ∧ v ≤ 1073741824) {B : List Nd} {e : Nat} (hB : Tr e B) (he : e ≤ 64) (hl : B.length ≤ 512) : MInv (putL m v B) := by
  refine ⟨putL_nd h.1 _ _, fun x hx => ?_⟩
  have h1 := mem_lookL (putL_nd h.1 v B) (v := x.1) (x := x.2) hx
  rw [lookL_put] at h1
  split at h1
  · rename_i e1
    rw [← e1, ← Option.some.inj h1]
    exact ⟨hv, hl, e, he, hB⟩
  · exact h.2 x (lookL_mem h1)
theorem matchL {self : List Bd → List Nd → List Nd → Option MR} {d e : Nat} (he : e ≤ 64) {a1 : List Nd} {c : Nat} (hc : (gi a1 0).2.2 = (c : Int)) (hc9 : c ≤ 9)
    (hself : ∀ (A B ra rb : List Nd) (m : List Bd), Tr d A → Tr e B → (B ++ rb).length ≤ 512 → MInv m → ∃ r, self m (A ++ ra) (B ++ rb) = some r ∧ ((∃ m', r = (ra, rb, true, m') ∧ MOk A B m m') ∨ MFail A B m r)) (K : List Bd → List Nd → List Nd → Option MR) :
    ∀ (ks fs : List (List Nd)) (j n : Nat) (ra rb : List Nd) (m : List Bd), (∀ x ∈ ks, Tr d x) → (∀ x ∈ fs, Tr e x) → ks.length = fs.length → j + ks.length = c → ks.length < n → (fs.flatten ++ rb).length ≤ 512 → MInv m →
      (∃ m', m_types_matcher_match_L2 self a1 K n m (ks.flatten ++ ra) (fs.flatten ++ rb) (j : Int) = K m' ra rb ∧ MOk ks.flatten fs.flatten m m') ∨ (∃ r, m_types_matcher_match_L2 self a1 K n m (ks.flatten ++ ra) (fs.flatten ++ rb) (j : Int) = some r ∧ MFail ks.flatten fs.flatten m r)
  | [], [], j, n, ra, rb, m, _, _, _, hj, hn, _, hm => by
    obtain ⟨n, rfl⟩ : ∃ q, n = q + 1 := ⟨n - 1, by omega⟩
    simp only [List.length_nil] at hj
    refine .inl ⟨m, by rw [m_types_matcher_match_L2, m_types_matcher_match_B2, hc, if_neg (by omega)]; rfl, ⟨fun _ _ h => h, fun _ _ => rfl, fun _ _ h _ => h, hm, by simp, fun _ h => .inl h, fun _ h => by cases h⟩⟩
  | [], _ :: _, _, _, _, _, _, _, _, h, _, _, _, _ => by simp at h
  | _ :: _, [], _, _, _, _, _, _, _, h, _, _, _, _ => by simp at h
  | x :: ks, y :: fs, j, n, ra, rb, m, hks, hfs, hl, hj, hn, hlen, hm => by
    obtain ⟨n, rfl⟩ : ∃ q, n = q + 1 := ⟨n - 1, by omega⟩
    simp only [List.length_cons] at hl hj hn
    have hx := hks x List.mem_cons_self
    have hy := hfs y List.mem_cons_self
    simp only [List.flatten_cons, List.append_assoc] at hlen ⊢
    obtain ⟨r, h1, h2⟩ := hself x y (ks.flatten ++ ra) (fs.flatten ++ rb) m hx hy hlen hm
    rw [m_types_matcher_match_L2, m_types_matcher_match_B2, hc, if_pos (by omega), h1, bnd1_mk]
    rcases h2 with ⟨m1, rfl, k1⟩ | ⟨f1, f2⟩
    · simp only [Bool.not_true, Bool.false_eq_true, ↓reduceIte]
      rw [i64s (by omega)]
      have ih := matchL he hc hc9 hself K ks fs (j + 1) n ra rb m1 (fun z hz => hks z (List.mem_cons_of_mem _ hz)) (fun z hz => hfs z (List.mem_cons_of_mem _ hz)) (by omega) (by omega) (by omega) (by simp only [List.length_append] at hlen ⊢; omega) k1.inv
      have hsplit : ∀ σ, TrS σ → y ++ fs.flatten = sbt σ (x ++ ks.flatten) → y = sbt σ x ∧ fs.flatten = sbt σ ks.flatten := fun σ hσ h => by
        rw [show sbt σ (x ++ ks.flatten) = sbt σ x ++ sbt σ ks.flatten from List.flatMap_append] at h
        obtain ⟨e', he'⟩ := hx.sbt hσ
        exact hy.uniq he' h
      rcases ih with ⟨m2, e2, k2⟩ | ⟨r, e2, g1, g2⟩
      · refine .inl ⟨m2, e2, ⟨fun v z h => k2.keep v z (k1.keep v z h), fun σ h => ?_, fun σ hσ h hB => ?_, k2.inv, ?_, fun v h => ?_, fun v h => ?_⟩⟩
        · have hex : Ex m1 σ := fun v z hz => h v z (k2.keep v z hz)
          rw [show sbt σ (x ++ ks.flatten) = sbt σ x ++ sbt σ ks.flatten from List.flatMap_append, ← k1.eq σ hex, ← k2.eq σ h]
        · obtain ⟨b1, b2⟩ := hsplit σ hσ hB
          exact k2.det σ hσ (k1.det σ hσ h b1) b2
        · have := k1.len; have := k2.len; rw [List.length_append]; omega
        · rw [vsN_app, List.mem_append]
          rcases k2.keys v h with h | h
          · rcases k1.keys v h with h | h
            · exact .inl h
            · exact .inr (.inl h)
          · exact .inr (.inr h)
        · rw [vsN_app, List.mem_append] at h
          rcases h with h | h
          · have := k1.all v h
            cases hz : lookL m1 v with
            | none => exact absurd hz this
            | some z => rw [k2.keep v z hz]; simp
          · exact k2.all v h
      · refine .inr ⟨r, e2, g1, fun σ hσ h hB => ?_⟩
        obtain ⟨b1, b2⟩ := hsplit σ hσ hB
        exact g2 σ hσ (k1.det σ hσ h b1) b2
    · simp only [f1, Bool.not_false, ↓reduceIte]
      refine .inr ⟨_, rfl, rfl, fun σ hσ h hB => ?_⟩
      rw [show sbt σ (x ++ ks.flatten) = sbt σ x ++ sbt σ ks.flatten from List.flatMap_append] at hB
      obtain ⟨e', he'⟩ := hx.sbt hσ
      exact f2 σ hσ h (hy.uniq he' hB).1
theorem vMatchT : ∀ (d n e : Nat), d < n → e ≤ 64 → ∀ (A B ra rb : List Nd) (m : List Bd), Tr d A → Tr e B → (B ++ rb).length ≤ 512 → MInv m →
    ∃ r, m_types_matcher_match_S n m (A ++ ra) (B ++ rb) = some r ∧ ((∃ m', r = (ra, rb, true, m') ∧ MOk A B m m') ∨ MFail A B m r)
  | _, 0, _, h, _, _, _, _, _, _, _, _, _, _ => by omega
  | 0, n + 1, _, _, _, _, _, _, _, _, h, _, _, _ => h.elim
  | d + 1, n + 1, e, hn, he, A, B, ra, rb, m, ⟨k, mm, ks, hA, hf, hks⟩, hB, hl, hm => by
    subst hA
    have hBl : B.length ≤ 512 := by rw [List.length_append] at hl; omega
    have g0 : gi ((k, mm, (ks.length : Int)) :: ks.flatten ++ ra) 0 = (k, mm, (ks.length : Int)) := rfl
    rw [m_types_matcher_match_S, m_types_matcher_match_F, need_pos (by simp; omega), g0]
    dsimp only
    by_cases hk : k = 1
    · subst hk
      have hl0 : ks.length = 0 := by
        have h4 := hf
        unfold fmB at h4
        rw [if_pos (.inl rfl)] at h4
        have := (of_decide_eq_true h4).1
        dsimp only at this; omega
      have hmm : 0 ≤ mm ∧ mm ≤ 1073741824 := (fm_kids hf).2.2
      obtain rfl := List.eq_nil_of_length_eq_zero hl0
      have htk : List.take (Int.toNat (B.length : Int)) (B ++ rb) = B := by rw [Int.toNat_natCast, List.take_left']; rfl
      have hdr : List.drop (Int.toNat (B.length : Int)) (B ++ rb) = rb := by rw [Int.toNat_natCast, List.drop_left']; rfl
      rw [if_pos rfl, vAfterT hB he hl, bnd1_mk, htk, hdr, jn_eq, vCloneN B (by omega)]
      have hgo : ∀ (hx : ∀ x, lookL m mm = some x → x = B), MOk [((1 : Int), mm, (0 : Int))] B m (putL m mm B) := fun hx => by
        refine ⟨fun v z hz => ?_, fun σ h => ?_, fun σ hσ h hB' => ?_, hm.put hmm hB he hBl, putL_len m mm B, fun v h => ?_, fun v h => ?_⟩
        · rw [lookL_put]
          by_cases e1 : mm = v
          · subst e1; rw [if_pos rfl, hx z hz]
          · rw [if_neg e1]; exact hz
        · have := h mm B (by rw [lookL_put, if_pos rfl])
          simp [sbt, asg, this]
        · intro v z hz
          rw [lookL_put] at hz
          by_cases e1 : mm = v
          · subst e1
            rw [if_pos rfl] at hz
            rw [← Option.some.inj hz, hB']; simp [sbt, asg]
          · rw [if_neg e1] at hz; exact h v z hz
        · rw [lookL_put] at h
          by_cases e1 : mm = v
          · right; subst e1; simp [vsN]
          · rw [if_neg e1] at h; exact .inl h
        · have : v = mm := by simpa [vsN] using h
          rw [lookL_put, if_pos this.symm]; simp
      have hfin : bnd1 (some B) (fun y16 => need (1 ≤ (List.length (((1, mm, ((List.length ([] : List (List Nd)) : Nat) : Int)) :: ([] : List (List Nd)).flatten ++ ra) : List Nd) : Int)) (need ((0 : Int) ≤ (B.length : Int) ∧ (B.length : Int) ≤ (List.length (B ++ rb) : Int)) (some (List.drop (Int.toNat 1) (((1, mm, ((List.length ([] : List (List Nd)) : Nat) : Int)) :: ([] : List (List Nd)).flatten ++ ra) : List Nd), rb, true, (putL m mm y16))))) = some (ra, rb, true, putL m mm B) := by
        rw [bnd1_mk, need_pos (by simp; omega), need_pos (by simp; omega)]; rfl
      cases hx : lookL m mm with
      | none =>
        simp only [Option.isSome_none, Bool.false_eq_true, ↓reduceIte]
        rw [need_pos (by simp; omega)]
        exact ⟨_, hfin, .inl ⟨_, rfl, hgo (fun x h => by rw [hx] at h; cases h)⟩⟩
      | some x =>
        have hxm := hm.2 _ (lookL_mem hx)
        have hxl : x.length ≤ 512 := hxm.2.1
        simp only [Option.isSome_some, ↓reduceIte, Option.getD_some]
        rw [need_pos (by simp; omega), vEqS x B (by omega), bnd1_mk]
        by_cases e1 : x = B
        · simp only [e1, decide_true, Bool.not_true, Bool.false_eq_true, ↓reduceIte]
          rw [need_pos (by simp; omega)]
          exact ⟨_, hfin, .inl ⟨_, rfl, hgo (fun z h => by rw [hx] at h; cases h; exact e1)⟩⟩
        · simp only [e1, decide_false, Bool.not_false, ↓reduceIte]
          refine ⟨_, rfl, .inr ⟨rfl, fun σ hσ h hB' => e1 ?_⟩⟩
          rw [hB', ← h mm x hx]; simp [sbt, asg]
    · rw [if_neg hk]
      match e, he, hB with
      | 0, _, hB => exact hB.elim
      | e + 1, he, ⟨k', m', fs, hB1, hB2, hB3⟩ =>
        subst hB1
        have g1 : gi ((k', m', (fs.length : Int)) :: fs.flatten ++ rb) 0 = (k', m', (fs.length : Int)) := rfl
        rw [need_pos (by simp; omega), g1]
        by_cases hne : (k, mm, (ks.length : Int)) = (k', m', (fs.length : Int))
        · rw [if_neg (fun h => h hne), need_pos (by simp; omega), need_pos (by simp; omega), jn_eq]
          have hlen : ks.length = fs.length := by have := congrArg (fun z : Nd => z.2.2) hne; dsimp only at this; omega
          have hfl := fm_kids hf
          dsimp only at hfl
          have hL := matchL (self := m_types_matcher_match_S n) (d := d) (e := e) (by omega) (a1 := (k, mm, (ks.length : Int)) :: ks.flatten ++ ra) (c := ks.length) rfl (by omega)
            (fun A B ra rb m hA hB hl hm => vMatchT d n e (by omega) (by omega) A B ra rb m hA hB hl hm) (fun x0 x1 x2 => some (x1, x2, true, x0)) ks fs 0 FU ra rb m hks hB3 hlen (by omega) (by have := FU_ge; omega) (by simp only [List.length_append, List.length_cons] at hl ⊢; omega) hm
          have hsb : ∀ σ, sbt σ ((k, mm, (ks.length : Int)) :: ks.flatten) = (k, mm, (ks.length : Int)) :: sbt σ ks.flatten := fun σ => by rw [sbt_cons, asg, if_neg hk]; rfl
          have hd1 : List.drop (Int.toNat 1) ((k, mm, (ks.length : Int)) :: ks.flatten ++ ra) = ks.flatten ++ ra := rfl
          have hd2 : List.drop (Int.toNat 1) ((k', m', (fs.length : Int)) :: fs.flatten ++ rb) = fs.flatten ++ rb := rfl
          rw [hd1, hd2, show (0 : Int) = ((0 : Nat) : Int) from rfl]
          rcases hL with ⟨m2, e2, k2⟩ | ⟨r, e2, f1, f2⟩
          · refine ⟨_, e2, .inl ⟨m2, rfl, ⟨k2.keep, fun σ h => by rw [hsb, ← k2.eq σ h, hne], fun σ hσ h hB' => ?_, k2.inv, ?_, fun v h => ?_, fun v h => ?_⟩⟩⟩
            · rw [hsb, ← hne] at hB'
              exact k2.det σ hσ h (List.cons.inj hB').2
            · have := k2.len; simp only [List.length_cons]; omega
            · rw [vsN, if_neg hk]; exact k2.keys v h
            · rw [vsN, if_neg hk] at h; exact k2.all v h
          · refine ⟨r, e2, .inr ⟨f1, fun σ hσ h hB' => ?_⟩⟩
            rw [hsb, ← hne] at hB'
            exact f2 σ hσ h (List.cons.inj hB').2
        · rw [if_pos hne]
          refine ⟨_, rfl, .inr ⟨rfl, fun σ hσ h hB' => hne ?_⟩⟩
          rw [sbt_cons, asg, if_neg hk] at hB'
          exact (List.cons.inj hB').1.symm
end Go.Proofs.YtdfdjgolijckfaaDoor
/- Match of valid types; Canon; the law of Canon. -/
namespace Go.Proofs.YtdfdjgolijckfaaDoor
attribute [local irreducible] FU
theorem vClipB (t : List Bd) : m_slices_Clip_L_api_Binding_api_Binding t = some t := by
  unfold m_slices_Clip_L_api_Binding_api_Binding
  rw [need_pos (by omega), Int.toNat_natCast, List.take_length]
/-- The bindings as a function. -/
def fnB (m : List Bd) (v : Int) : List Nd := (lookL m v).getD [(2, 0, 0)]
theorem fnB_tr {m : List Bd} (h : MInv m) : TrS (fnB m) := fun v => by
  unfold fnB
  cases hx : lookL m v with
  | none => exact ⟨1, 2, 0, [], rfl, rfl, by simp⟩
  | some x =>
    obtain ⟨_, _, e, _, he⟩ := h.2 _ (lookL_mem hx)
    exact ⟨e, he⟩
theorem fnB_ex (m : List Bd) : Ex m (fnB m) := fun v x h => by unfold fnB; rw [h]; rfl
theorem vMatch {p q : List Nd} (hp : vdB p = true) (hq : vdB q = true) : ∃ r ok, m_types_Match p q = some (r, ok) ∧ (ok = true ↔ ∃ σ, TrS σ ∧ q = sbt σ p) ∧ (ok = true → SrK r ∧ ∃ m', MOk p q [] m' ∧ ∀ v, lookL r v = lookL m' v) ∧ (ok = false → r = []) := by
  have tp := vd_tr.1 hp
  have tq := vd_tr.1 hq
  have h0 : MInv [] := ⟨by simp [NdK], by simp⟩
  obtain ⟨r, h1, h2⟩ := vMatchT 64 FU 64 (by have := FU_ge; omega) (by omega) p q [] [] [] tp.1 tq.1 (by simpa using tq.2) h0
  rw [List.append_nil, List.append_nil] at h1
  unfold m_types_Match
  simp only [jn_eq]
  rw [vValid, hp, bnd1_mk, vValid, hq, bnd1_mk]
  simp only [Bool.not_true, Bool.false_eq_true, ↓reduceIte]
  rw [show m_types_matcher_match [] p q = some r from h1, bnd1_mk]
  rcases h2 with ⟨m', rfl, k⟩ | ⟨f1, f2⟩
  · simp only [Bool.not_true, Bool.false_eq_true, ↓reduceIte]
    have hb : ∀ x ∈ m', 0 ≤ x.1 ∧ x.1 ≤ 4611686018427387903 := fun x hx => by have := (k.inv.2 x hx).1; omega
    have hlen : m'.length ≤ 512 := by have := k.len; have := tp.2; simp at *; omega
    obtain ⟨r, r1, r2, r3⟩ := sort_keys (c := m_types_Match_1) (fun a b => rfl) k.inv.1 hb (by omega)
    refine ⟨r, true, ?_, ⟨fun _ => ⟨fnB m', fnB_tr k.inv, k.eq _ (fnB_ex m')⟩, fun _ => rfl⟩, fun _ => ⟨r3, m', k, fun v => lookL_perm k.inv.1 r2 v⟩, (fun h => by cases h)⟩
    refine rng_all (f := fun y => (y.1, y.2)) (fun y x hx => ?_) (by omega) (fun l' hpm => ?_)
    · unfold m_types_Match_R2
      rw [need_pos (by simp; omega)]
    · have hid : l'.map (fun y : Bd => (y.1, y.2)) = l' := by simp
      have hn' : NdK l' := (hpm.map _).nodup_iff.2 k.inv.1
      obtain ⟨r', s1, s2, s3⟩ := sort_keys (c := m_types_Match_1) (fun a b => rfl) hn' (fun x hx => hb x (hpm.mem_iff.1 hx)) (by rw [hpm.length_eq]; omega)
      have : r' = r := srk_ext s3 r3 (fun v => by rw [lookL_perm hn' s2, lookL_perm k.inv.1 hpm, lookL_perm k.inv.1 r2])
      subst this
      rw [hid, s1, bnd1_mk, vClipB, bnd1_mk]
  · simp only [f1, Bool.not_false, ↓reduceIte]
    exact ⟨[], false, rfl, ⟨(fun h => by cases h), (fun ⟨σ, hσ, he⟩ => absurd he (f2 σ hσ (fun v x h => by cases h)))⟩, (fun h => by cases h), fun _ => rfl⟩
/-! ### Canon -/
/-- The variables, each once, in order. -/
def vgo : List Int → List Nd → List Int
  | out, [] => out
  | out, n :: t => if n.1 = 1 ∧ n.2.1 ∉ out then vgo (out ++ [n.2.1]) t else vgo out t
abbrev vrs (t : List Nd) : List Int := vgo [] t
theorem vVars {t : List Nd} (hl : t.length ≤ 512) (K : List Int → Option (List Int)) : ∀ (u : List Nd) (j n : Nat) (out : List Int) (s : List (Int × Bool)), t.drop j = u → j ≤ t.length → u.length < n → out.length ≤ j → (∀ v, Option.getD (lookL s v) false = decide (v ∈ out)) →
    m_types_Vars_L2 t K n out s (j : Int) = K (vgo out u)
  | [], j, 0, _, _, _, _, h, _, _ => by simp at h
  | [], j, n + 1, out, s, hd, hj, _, _, _ => by
    have := congrArg List.length hd
    simp at this
    rw [m_types_Vars_L2, m_types_Vars_B2, if_neg (by omega)]; rfl
  | a :: u, j, 0, _, _, _, _, h, _, _ => by simp at h
  | a :: u, j, n + 1, out, s, hd, hj, hn, ho, hs => by
    have hlen := congrArg List.length hd
    simp at hlen
    have hjl : j < t.length := by omega
    have ha : t[j] = a ∧ t.drop (j + 1) = u := by rw [List.drop_eq_getElem_cons hjl] at hd; exact ⟨(List.cons.inj hd).1, (List.cons.inj hd).2⟩
    rw [m_types_Vars_L2, m_types_Vars_B2, if_pos (by omega)]
    simp only [jn_eq]
    rw [need_pos (by omega), gi_nat hjl, ha.1, hs, vgo, i64s (by omega)]
    by_cases h1 : a.1 = 1
    · by_cases h2 : a.2.1 ∈ out
      · rw [if_pos h1, decide_eq_true h2]
        simp only [Bool.not_true, Bool.false_eq_true, ↓reduceIte]
        rw [if_neg (fun h => h.2 h2)]
        exact vVars hl K u (j + 1) n out s ha.2 (by omega) (by simp at hn; omega) (by omega) hs
      · rw [if_pos h1, decide_eq_false h2]
        simp only [Bool.not_false, ↓reduceIte]
        rw [if_pos ⟨h1, h2⟩, need_pos (by simp; omega)]
        refine vVars hl K u (j + 1) n _ _ ha.2 (by omega) (by simp at hn; omega) (by simp; omega) (fun v => ?_)
        rw [lookL_put]
        by_cases e : a.2.1 = v
        · rw [if_pos e]; simp [e]
        · rw [if_neg e, hs]; simp; intro h; exact absurd h.symm e
    · rw [if_neg h1]
      simp only [Bool.false_eq_true, ↓reduceIte]
      rw [if_neg (fun h => h1 h.1)]
      exact vVars hl K u (j + 1) n out s ha.2 (by omega) (by simp at hn; omega) (by omega) hs
theorem vgo_mem : ∀ {t : List Nd} {out : List Int} {v : Int}, v ∈ vgo out t ↔ v ∈ out ∨ v ∈ vsN t
  | [], out, v => by simp [vgo, vsN]
  | n :: t, out, v => by
    rw [vgo, vsN]
    by_cases h1 : n.1 = 1
    · rw [if_pos h1]
      by_cases h2 : n.2.1 ∈ out
      · rw [if_neg (fun h => h.2 h2), vgo_mem, List.mem_cons]
        constructor
        · rintro (h | h)
          · exact .inl h
          · exact .inr (.inr h)
        · rintro (h | rfl | h)
          · exact .inl h
          · exact .inl h2
          · exact .inr h
      · rw [if_pos ⟨h1, h2⟩, vgo_mem, List.mem_append, List.mem_singleton, List.mem_cons, or_assoc]
    · rw [if_neg (fun h => h1 h.1), if_neg h1, vgo_mem]
theorem vgo_len : ∀ (t : List Nd) (out : List Int), (vgo out t).length ≤ out.length + t.length
  | [], out => by simp [vgo]
  | n :: t, out => by
    rw [vgo]
    split
    · have := vgo_len t (out ++ [n.2.1]); simp at *; omega
    · have := vgo_len t out; simp; omega
/-- The place in a list; -1: none. -/
def ix (vs : List Int) (v : Int) : Int := if v ∈ vs then (vs.idxOf v : Int) else -1
theorem vIndex (vs : List Int) (hl : vs.length ≤ 4611686018427387904) (v : Int) : m_slices_Index_L_int_int vs v = some (ix vs v) := by
  have go : ∀ (u : List Int) (j n : Nat), vs.drop j = u → j ≤ vs.length → u.length < n → m_slices_Index_L_int_int_L2 vs v (fun _ => some (-1)) n (j : Int) = some (if v ∈ u then ((j + u.idxOf v : Nat) : Int) else -1) := by
    intro u
    induction u with
    | nil =>
      intro j n hd hj hn
      obtain ⟨n, rfl⟩ : ∃ q, n = q + 1 := ⟨n - 1, by omega⟩
      have := congrArg List.length hd
      simp at this
      rw [m_slices_Index_L_int_int_L2, m_slices_Index_L_int_int_B2, if_neg (by omega)]; simp
    | cons a u ih =>
      intro j n hd hj hn
      obtain ⟨n, rfl⟩ : ∃ q, n = q + 1 := ⟨n - 1, by omega⟩
      have hlen := congrArg List.length hd
      simp at hlen
      have hjl : j < vs.length := by omega
      have ha : vs[j] = a ∧ vs.drop (j + 1) = u := by rw [List.drop_eq_getElem_cons hjl] at hd; exact ⟨(List.cons.inj hd).1, (List.cons.inj hd).2⟩
      rw [m_slices_Index_L_int_int_L2, m_slices_Index_L_int_int_B2, if_pos (by omega), need_pos (by omega), gi_nat hjl, ha.1]
      by_cases e : v = a
      · subst e; rw [if_pos rfl, if_pos List.mem_cons_self, List.idxOf_cons_self]; rfl
      · rw [if_neg e, i64s (by omega), ih (j + 1) n ha.2 (by omega) (by simp at hn; omega)]
        by_cases hm : v ∈ u
        · rw [if_pos hm, if_pos (List.mem_cons_of_mem _ hm), show (a :: u).idxOf v = u.idxOf v + 1 by rw [List.idxOf_cons, show (a == v) = false from by simp; exact fun h => e h.symm]; rfl]
          congr 2; omega
        · rw [if_neg hm, if_neg (fun h => (List.mem_cons.1 h).elim e hm)]
  unfold m_slices_Index_L_int_int ix
  rw [jn_eq, show (0 : Int) = ((0 : Nat) : Int) from rfl, go vs 0 FU rfl (Nat.zero_le _) (by have := FU_ge; omega), Nat.zero_add]
/-- A node, its variable renamed. -/
def ren (f : Int → Int) (n : Nd) : Nd := if n.1 = 1 then (1, f n.2.1, n.2.2) else n
def canR (t : List Nd) : List Nd := if vdB t = true then t.map (ren (ix (vrs t))) else []
theorem vCanonL (vs : List Int) (hvl : vs.length ≤ 512) (c : List Nd) (hl : c.length ≤ 512) (K : List Nd → Option (List Nd)) : ∀ (m j n : Nat), j + m = c.length → m < n →
    m_types_Canon_L2 vs c K n ((c.take j).map (ren (ix vs)) ++ c.drop j) (j : Int) = K (c.map (ren (ix vs)))
  | 0, j, n, hj, hn => by
    obtain ⟨n, rfl⟩ : ∃ q, n = q + 1 := ⟨n - 1, by omega⟩
    rw [m_types_Canon_L2, m_types_Canon_B2, if_neg (by omega), List.take_of_length_le (by omega), List.drop_of_length_le (by omega), List.append_nil]
  | m + 1, j, n, hj, hn => by
    obtain ⟨n, rfl⟩ : ∃ q, n = q + 1 := ⟨n - 1, by omega⟩
    have hjl : j < c.length := by omega
    have ih := vCanonL vs hvl c hl K m (j + 1) n (by omega) (by omega)
    have hlen : ((c.take j).map (ren (ix vs)) ++ c.drop j).length = c.length := by simp; omega
    have hl1 : ((c.take j).map (ren (ix vs))).length = j := by simp; omega
    have hg : gi ((c.take j).map (ren (ix vs)) ++ c.drop j) (j : Int) = c[j] := by
      rw [gi_nat (by omega), List.getElem_append_right (by omega)]
      simp only [hl1, Nat.sub_self, List.getElem_drop, Nat.add_zero]
    have hnext : (c.take (j + 1)).map (ren (ix vs)) ++ c.drop (j + 1) = (c.take j).map (ren (ix vs)) ++ ren (ix vs) c[j] :: c.drop (j + 1) := by
      rw [List.take_succ_eq_append_getElem hjl, List.map_append, List.append_assoc]; rfl
    rw [m_types_Canon_L2, m_types_Canon_B2, if_pos (by omega), jn_eq, need_pos (by rw [hlen]; omega), hg, i64s (by omega)]
    rw [hnext] at ih
    by_cases h1 : c[j].1 = 1
    · rw [if_pos h1, vIndex vs (by omega), bnd1_mk, need_pos (by rw [hlen]; omega), Int.toNat_natCast, List.set_append_right _ _ (by omega), hl1, Nat.sub_self, List.drop_eq_getElem_cons hjl, List.set_cons_zero]
      rw [show ((c[j].1, ix vs c[j].2.1, c[j].2.2) : Nd) = ren (ix vs) c[j] by unfold ren; rw [if_pos h1, h1]]
      exact ih
    · rw [if_neg h1]
      rw [show ren (ix vs) c[j] = c[j] by unfold ren; rw [if_neg h1], ← List.drop_eq_getElem_cons hjl] at ih
      exact ih
theorem vCanon (t : List Nd) : m_types_Canon t = some (canR t) := by
  unfold m_types_Canon canR
  rw [vValid, bnd1_mk]
  cases hv : vdB t with
  | false => simp
  | true =>
    have hl := vdB_len hv
    have h1 : m_types_Vars t = some (vrs t) := by
      unfold m_types_Vars
      rw [jn_eq, show (0 : Int) = ((0 : Nat) : Int) from rfl, vVars hl _ t 0 FU [] [] rfl (Nat.zero_le _) (by have := FU_ge; omega) (by simp) (fun v => by simp [lookL])]
    have hvl : (vrs t).length ≤ t.length := by have := vgo_len t []; simp at this; exact this
    have h2 := vCanonL (vrs t) (by omega) t hl (fun x => some x) t.length 0 FU (by omega) (by have := FU_ge; omega)
    rw [List.take_zero, List.map_nil, List.nil_append, List.drop_zero] at h2
    rw [Bool.not_true, if_neg (by simp), h1, bnd1_mk, vCloneN t (by omega), bnd1_mk, jn_eq, if_pos rfl]
    exact h2
end Go.Proofs.YtdfdjgolijckfaaDoor
/- The law of Canon. -/
namespace Go.Proofs.YtdfdjgolijckfaaDoor
attribute [local irreducible] FU
theorem idxOf_map {f : Int → Int} {v : Int} : ∀ {vs : List Int}, (∀ w ∈ vs, f w = f v → w = v) → (vs.map f).idxOf (f v) = vs.idxOf v
  | [], _ => rfl
  | a :: vs, h => by
    rw [List.map_cons, List.idxOf_cons, List.idxOf_cons]
    by_cases e : a = v
    · subst e; simp
    · have : f a ≠ f v := fun h2 => e (h a List.mem_cons_self h2)
      simp only [beq_eq_false_iff_ne.2 e, beq_eq_false_iff_ne.2 this, cond_false]
      rw [idxOf_map (fun w hw => h w (List.mem_cons_of_mem _ hw))]
theorem vgo_ren {f : Int → Int} : ∀ {t : List Nd} {out : List Int}, (∀ v w, (v ∈ out ∨ v ∈ vsN t) → (w ∈ out ∨ w ∈ vsN t) → f v = f w → v = w) → vgo (out.map f) (t.map (ren f)) = (vgo out t).map f
  | [], out, _ => rfl
  | n :: t, out, h => by
    rw [List.map_cons, vgo, vgo]
    by_cases h1 : n.1 = 1
    · have hr : ren f n = (1, f n.2.1, n.2.2) := by unfold ren; rw [if_pos h1]
      have hv : vsN (n :: t) = n.2.1 :: vsN t := by rw [vsN, if_pos h1]
      have hm : f n.2.1 ∈ out.map f ↔ n.2.1 ∈ out := ⟨fun hh => by
        obtain ⟨w, hw, e⟩ := List.mem_map.1 hh
        rw [← h w n.2.1 (.inl hw) (.inr (by rw [hv]; exact List.mem_cons_self)) e]; exact hw, fun hh => List.mem_map_of_mem hh⟩
      rw [hr]
      by_cases h2 : n.2.1 ∈ out
      · rw [if_neg (fun hh => hh.2 (hm.2 h2)), if_neg (fun hh => hh.2 h2)]
        exact vgo_ren (fun v w hv' hw' => h v w (hv'.imp id (fun x => by rw [hv]; exact List.mem_cons_of_mem _ x)) (hw'.imp id (fun x => by rw [hv]; exact List.mem_cons_of_mem _ x)))
      · rw [if_pos ⟨rfl, fun hh => h2 (hm.1 hh)⟩, if_pos ⟨h1, h2⟩]
        have := vgo_ren (f := f) (t := t) (out := out ++ [n.2.1]) (fun v w hv' hw' => h v w (by
          rcases hv' with x | x
          · rcases List.mem_append.1 x with x | x
            · exact .inl x
            · rw [List.mem_singleton] at x; exact .inr (by rw [hv, x]; exact List.mem_cons_self)
          · exact .inr (by rw [hv]; exact List.mem_cons_of_mem _ x)) (by
          rcases hw' with x | x
          · rcases List.mem_append.1 x with x | x
            · exact .inl x
            · rw [List.mem_singleton] at x; exact .inr (by rw [hv, x]; exact List.mem_cons_self)
          · exact .inr (by rw [hv]; exact List.mem_cons_of_mem _ x)))
        rw [List.map_append] at this
        exact this
    · have hr : ren f n = n := by unfold ren; rw [if_neg h1]
      have hv : vsN (n :: t) = vsN t := by rw [vsN, if_neg h1]
      rw [hr, if_neg (fun hh => h1 hh.1), if_neg (fun hh => h1 hh.1)]
      exact vgo_ren (fun v w hv' hw' => h v w (by rw [hv]; exact hv') (by rw [hv]; exact hw'))
theorem vs_of_mem : ∀ {t : List Nd} {n : Nd}, n ∈ t → n.1 = 1 → n.2.1 ∈ vsN t
  | a :: t, n, h, h1 => by
    rw [vsN]
    rcases List.mem_cons.1 h with rfl | h
    · rw [if_pos h1]; exact List.mem_cons_self
    · have := vs_of_mem h h1
      split
      · exact List.mem_cons_of_mem _ this
      · exact this
theorem vrs_mem {t : List Nd} {v : Int} : v ∈ vrs t ↔ v ∈ vsN t := by rw [vrs, vgo_mem]; simp
/-- Renaming the variables does not change the canonical form. -/
theorem can_ren {t : List Nd} {f : Int → Int} (hf : ∀ v w, v ∈ vsN t → w ∈ vsN t → f v = f w → v = w) : (t.map (ren f)).map (ren (ix (vrs (t.map (ren f))))) = t.map (ren (ix (vrs t))) := by
  have hv : vrs (t.map (ren f)) = (vrs t).map f := by
    have := vgo_ren (f := f) (t := t) (out := []) (fun v w hv hw => hf v w (by simpa using hv) (by simpa using hw))
    exact this
  rw [hv, List.map_map]
  refine List.map_congr_left (fun n hn => ?_)
  show ren _ (ren f n) = _
  by_cases h1 : n.1 = 1
  · have hm : n.2.1 ∈ vrs t := vrs_mem.2 (vs_of_mem hn h1)
    unfold ren
    rw [if_pos h1, if_pos rfl, if_pos h1]
    unfold ix
    rw [if_pos (List.mem_map_of_mem hm), if_pos hm, idxOf_map (fun w hw e => hf w n.2.1 (vrs_mem.1 hw) (vrs_mem.1 hm) e)]
  · have : ∀ g, ren g n = n := fun g => by unfold ren; rw [if_neg h1]
    rw [this, this, this]
theorem ix_inj {vs : List Int} {v w : Int} (hv : v ∈ vs) (hw : w ∈ vs) (h : ix vs v = ix vs w) : v = w := by
  unfold ix at h
  rw [if_pos hv, if_pos hw] at h
  have h1 : vs.idxOf v = vs.idxOf w := by omega
  have e1 := List.getElem_idxOf (List.idxOf_lt_length_of_mem hv)
  have e2 := List.getElem_idxOf (List.idxOf_lt_length_of_mem hw)
  rw [← e1, ← e2]; congr 1
theorem ren_ok {t : List Nd} (h : vdB t = true) {f : Int → Int} (hf : ∀ v ∈ vsN t, 0 ≤ f v ∧ f v ≤ 1073741824) : vdB (t.map (ren f)) = true := by
  rw [vd_map (fun n hn => ?_), h]
  have h2 := vd_fm h n hn
  unfold ren
  by_cases h1 : n.1 = 1
  · have := hf _ (vs_of_mem hn h1)
    obtain ⟨k, m, c⟩ := n
    dsimp only at h1 this ⊢
    subst h1
    rw [if_pos rfl]
    refine ⟨rfl, ?_⟩
    rw [h2]
    unfold fmB at h2 ⊢
    rw [if_pos (.inl rfl)] at h2 ⊢
    have := of_decide_eq_true h2
    dsimp only at this ⊢
    exact decide_eq_true ⟨this.1, by omega, by omega⟩
  · rw [if_neg h1]; exact ⟨rfl, rfl⟩
theorem vrs_len (t : List Nd) : (vrs t).length ≤ t.length := by have := vgo_len t []; simpa using this
theorem ix_bd {t : List Nd} (h : vdB t = true) {v : Int} (hv : v ∈ vsN t) : 0 ≤ ix (vrs t) v ∧ ix (vrs t) v ≤ 1073741824 := by
  have hm := vrs_mem.2 hv
  have h1 := List.idxOf_lt_length_of_mem hm
  have h2 := vrs_len t
  have h3 := vdB_len h
  unfold ix; rw [if_pos hm]; omega
theorem can_idem {t : List Nd} (h : vdB t = true) : canR (canR t) = canR t := by
  have h1 : canR t = t.map (ren (ix (vrs t))) := by unfold canR; rw [if_pos h]
  rw [h1, canR, if_pos (ren_ok h (fun v hv => ix_bd h hv))]
  exact can_ren (fun v w hv hw e => ix_inj (vrs_mem.2 hv) (vrs_mem.2 hw) e)
theorem asg_pos {σ : Int → List Nd} (hσ : TrS σ) (n : Nd) : 0 < (asg σ n).length := by
  unfold asg
  split
  · obtain ⟨e, he⟩ := hσ n.2.1; exact he.pos
  · simp
theorem sbt_len {σ : Int → List Nd} (hσ : TrS σ) : ∀ t : List Nd, t.length ≤ (sbt σ t).length
  | [] => by simp
  | n :: t => by rw [sbt_cons, List.length_append]; have := asg_pos hσ n; have := sbt_len hσ t; simp only [List.length_cons]; omega
theorem sbt_one {σ : Int → List Nd} (hσ : TrS σ) : ∀ t : List Nd, (sbt σ t).length = t.length → sbt σ t = t.map (fun n => (asg σ n).headD n)
  | [], _ => rfl
  | n :: t, h => by
    rw [sbt_cons] at h ⊢
    rw [List.length_append, List.length_cons] at h
    have h1 := asg_pos hσ n
    have h2 := sbt_len hσ t
    obtain ⟨x, hx⟩ := List.length_eq_one_iff.1 (show (asg σ n).length = 1 by omega)
    rw [sbt_one hσ t (by omega), List.map_cons, hx]; rfl
theorem asg_not (σ : Int → List Nd) {n : Nd} (h : ¬ n.1 = 1) : asg σ n = [n] := by unfold asg; rw [if_neg h]
/-- Two types of which each is an instance of the other differ in the names of variables alone. -/
theorem inst_ren {p q : List Nd} (hp : vdB p = true) (hq : vdB q = true) {σ τ : Int → List Nd} (hσ : TrS σ) (hτ : TrS τ) (h1 : q = sbt σ p) (h2 : p = sbt τ q) : canR p = canR q := by
  have l1 := sbt_len hσ p
  have l2 := sbt_len hτ q
  rw [← h1] at l1
  rw [← h2] at l2
  have e1 := sbt_one hσ p (by rw [← h1]; omega)
  have e2 := sbt_one hτ q (by rw [← h2]; omega)
  rw [← h1] at e1
  rw [← h2] at e2
  have hid : p.map (fun n => (asg τ ((asg σ n).headD n)).headD ((asg σ n).headD n)) = p.map id := by
    rw [List.map_id]
    have h3 : (p.map (fun n => (asg σ n).headD n)).map (fun n => (asg τ n).headD n) = p := by rw [← e1, ← e2]
    rw [List.map_map] at h3
    exact h3
  have hpt : ∀ n ∈ p, (asg τ ((asg σ n).headD n)).headD ((asg σ n).headD n) = n := fun n hn => by
    have := List.map_inj_left.1 hid n hn
    exact this
  have hren : q = p.map (ren (fun v => ((σ v).headD (1, v, 0)).2.1)) := by
    rw [e1]
    refine List.map_congr_left (fun n hn => ?_)
    unfold ren
    by_cases hn1 : n.1 = 1
    · have hmem : (asg σ n).headD n ∈ q := by rw [e1]; exact List.mem_map_of_mem (f := fun n => (asg σ n).headD n) hn
      have hfq := vd_fm hq _ hmem
      have hfp := vd_fm hp n hn
      have hpn := hpt n hn
      have hone : ((asg σ n).headD n).1 = 1 := Classical.not_not.1 fun hne => by
        rw [asg_not τ hne] at hpn
        exact hne (by rw [show (asg σ n).headD n = n from hpn]; exact hn1)
      have hk : ∀ x : Nd, fmB x = true → x.1 = 1 → x.2.2 = 0 := fun x hx h => by
        unfold fmB at hx
        rw [if_pos (.inl h)] at hx
        exact (of_decide_eq_true hx).1
      have ha : asg σ n = σ n.2.1 := by unfold asg; rw [if_pos hn1]
      rw [if_pos hn1]
      have hz := hk _ hfq hone
      have hz' := hk _ hfp hn1
      rw [ha] at hone hz ⊢
      have hh : (σ n.2.1).headD n = (σ n.2.1).headD (1, n.2.1, 0) := by
        obtain ⟨e, he⟩ := hσ n.2.1
        have := he.pos
        cases hc : σ n.2.1 with
        | nil => rw [hc] at this; simp at this
        | cons x l => rfl
      rw [hh] at hone hz ⊢
      exact Prod.ext hone (Prod.ext rfl (by rw [hz]; exact hz'.symm))
    · rw [if_neg hn1]
      rw [asg_not σ hn1]; rfl
  have hinj : ∀ v w, v ∈ vsN p → w ∈ vsN p → ((σ v).headD (1, v, 0)).2.1 = ((σ w).headD (1, w, 0)).2.1 → v = w := by
    have key : ∀ n ∈ p, n.1 = 1 → ∃ z, ren (fun v => ((σ v).headD (1, v, 0)).2.1) n = (1, ((σ n.2.1).headD (1, n.2.1, 0)).2.1, n.2.2) ∧ ((asg τ (1, ((σ n.2.1).headD (1, n.2.1, 0)).2.1, n.2.2)).headD z) = n ∧ z = (1, ((σ n.2.1).headD (1, n.2.1, 0)).2.1, n.2.2) := fun n hn hn1 => by
      have hr : ren (fun v => ((σ v).headD (1, v, 0)).2.1) n = (1, ((σ n.2.1).headD (1, n.2.1, 0)).2.1, n.2.2) := by unfold ren; rw [if_pos hn1]
      refine ⟨_, hr, ?_, rfl⟩
      have h3 : (p.map (ren (fun v => ((σ v).headD (1, v, 0)).2.1))).map (fun n => (asg τ n).headD n) = p.map id := by rw [← hren, List.map_id, ← e2]
      rw [List.map_map] at h3
      have := List.map_inj_left.1 h3 n hn
      simp only [Function.comp, id] at this
      rw [hr] at this
      exact this
    intro v w hv hw e
    obtain ⟨n, n1, n2, rfl⟩ := vs_mem hv
    obtain ⟨n', m1, m2, rfl⟩ := vs_mem hw
    obtain ⟨z, _, k2, k3⟩ := key n n1 n2
    obtain ⟨z', _, k2', k3'⟩ := key n' m1 m2
    have hz : n.2.2 = n'.2.2 := by
      have hk : ∀ x ∈ p, x.1 = 1 → x.2.2 = 0 := fun x hx h => by
        have hx := vd_fm hp x hx
        unfold fmB at hx
        rw [if_pos (.inl h)] at hx
        exact (of_decide_eq_true hx).1
      rw [hk n n1 n2, hk n' m1 m2]
    subst k3 k3'
    rw [e, hz] at k2
    rw [k2] at k2'
    rw [k2']
  have hc := can_ren hinj
  unfold canR
  rw [if_pos hp, if_pos hq]
  rw [← hren] at hc
  exact hc.symm
theorem ren_not (f : Int → Int) {n : Nd} (h : ¬ n.1 = 1) : ren f n = n := by unfold ren; rw [if_neg h]
theorem var_kids {n : Nd} (h : fmB n = true) (h1 : n.1 = 1) : n.2.2 = 0 ∧ 0 ≤ n.2.1 ∧ n.2.1 ≤ 1073741824 := by
  unfold fmB at h
  rw [if_pos (.inl h1)] at h
  exact of_decide_eq_true h
theorem can_inst_go {vp vq : List Int} : ∀ {p q : List Nd}, (∀ n ∈ q, n.1 = 1 → n.2.1 ∈ vq ∧ n.2.2 = 0) → (∀ n ∈ p, n.1 = 1 → n.2.1 ∈ vp) → p.map (ren (ix vp)) = q.map (ren (ix vq)) → q = sbt (fun v => [(1, gi vq (ix vp v), 0)]) p
  | [], [], _, _, _ => rfl
  | [], _ :: _, _, _, h => by simp at h
  | _ :: _, [], _, _, h => by simp at h
  | a :: p, b :: q, hq, hp, h => by
    rw [List.map_cons, List.map_cons] at h
    obtain ⟨h1, h2⟩ := List.cons.inj h
    rw [sbt_cons, ← can_inst_go (fun n hn => hq n (List.mem_cons_of_mem _ hn)) (fun n hn => hp n (List.mem_cons_of_mem _ hn)) h2]
    have hk : (ren (ix vp) a).1 = a.1 ∧ (ren (ix vq) b).1 = b.1 := by
      constructor
      · unfold ren; split
        · rename_i e; exact e.symm
        · rfl
      · unfold ren; split
        · rename_i e; exact e.symm
        · rfl
    by_cases ha : a.1 = 1
    · have hb : b.1 = 1 := by rw [← hk.2, ← h1, hk.1, ha]
      obtain ⟨g1, g2⟩ := hq b List.mem_cons_self hb
      have g3 := hp a List.mem_cons_self ha
      have e1 : ix vp a.2.1 = ix vq b.2.1 := by
        unfold ren at h1
        rw [if_pos ha, if_pos hb] at h1
        exact congrArg (fun z : Nd => z.2.1) h1
      have e2 : asg (fun v => [(1, gi vq (ix vp v), 0)]) a = [b] := by
        unfold asg
        rw [if_pos ha]
        dsimp only
        rw [e1]
        have hl := List.idxOf_lt_length_of_mem g1
        have : gi vq (ix vq b.2.1) = b.2.1 := by
          unfold ix
          rw [if_pos g1, gi_nat hl, List.getElem_idxOf hl]
        rw [this]
        exact congrArg (fun z => [z]) (Prod.ext hb.symm (Prod.ext rfl g2.symm))
      rw [e2]; rfl
    · have hb : ¬ b.1 = 1 := fun e => ha (by rw [← hk.1, h1, hk.2, e])
      rw [ren_not _ ha, ren_not _ hb] at h1
      rw [asg_not _ ha, h1]; rfl
theorem gi_bd {vq : List Int} (h : ∀ v ∈ vq, 0 ≤ v ∧ v ≤ 1073741824) (i : Int) : 0 ≤ gi vq i ∧ gi vq i ≤ 1073741824 := by
  unfold gi
  cases hx : vq[i.toNat]? with
  | none => exact ⟨by decide, by decide⟩
  | some x => exact h x (List.mem_of_getElem? hx)
/-- Types with one canonical form are instances of one another. -/
theorem can_inst {p q : List Nd} (hp : vdB p = true) (hq : vdB q = true) (h : canR p = canR q) : ∃ σ, TrS σ ∧ q = sbt σ p := by
  unfold canR at h
  rw [if_pos hp, if_pos hq] at h
  refine ⟨fun v => [(1, gi (vrs q) (ix (vrs p) v), 0)], fun v => ⟨1, 1, gi (vrs q) (ix (vrs p) v), [], rfl, ?_, by simp⟩, can_inst_go (fun n hn h1 => ⟨vrs_mem.2 (vs_of_mem hn h1), (var_kids (vd_fm hq n hn) h1).1⟩) (fun n hn h1 => vrs_mem.2 (vs_of_mem hn h1)) h⟩
  have := gi_bd (vq := vrs q) (fun v hv => vs_bd' hq (vrs_mem.1 hv)) (ix (vrs p) v)
  unfold fmB
  rw [if_pos (.inl rfl)]
  exact decide_eq_true ⟨rfl, this⟩
theorem eqH_loop (a b : List Nd) (hab : a.length = b.length) (hl : a.length ≤ 4611686018427387904) (K : Unit → Option Bool) : ∀ (m j n : Nat), j + m = a.length → m < n → m_help_Equal_api_TypeNode_L2 a b K n (j : Int) = if a.drop j = b.drop j then K () else some false
  | 0, j, n, hj, hn => by
    obtain ⟨n, rfl⟩ : ∃ q, n = q + 1 := ⟨n - 1, by omega⟩
    rw [m_help_Equal_api_TypeNode_L2, m_help_Equal_api_TypeNode_B2, if_neg (by omega), if_pos (by rw [List.drop_of_length_le (by omega), List.drop_of_length_le (by omega)])]
  | m + 1, j, n, hj, hn => by
    obtain ⟨n, rfl⟩ : ∃ q, n = q + 1 := ⟨n - 1, by omega⟩
    have h1 : j < a.length := by omega
    have h2 : j < b.length := by omega
    rw [m_help_Equal_api_TypeNode_L2, m_help_Equal_api_TypeNode_B2, if_pos (by omega), need_pos (by omega), need_pos (by omega), gi_nat h1, gi_nat h2, List.drop_eq_getElem_cons h1, List.drop_eq_getElem_cons h2, i64s (by omega), eqH_loop a b hab hl K m (j + 1) n (by omega) (by omega)]
    by_cases e : a[j] = b[j]
    · rw [if_neg (fun h => h e)]
      simp only [e, List.cons.injEq, true_and]
    · rw [if_pos e, if_neg (fun h => e (List.cons.inj h).1)]
theorem vEqH (a b : List Nd) (hl : a.length ≤ 4611686018427387904) : m_help_Equal_api_TypeNode a b = some (decide (a = b)) := by
  unfold m_help_Equal_api_TypeNode
  by_cases h : a.length = b.length
  · rw [if_neg (by omega), jn_eq, show (0 : Int) = ((0 : Nat) : Int) from rfl, eqH_loop a b h hl _ a.length 0 FU (by omega) (by have := FU_ge; omega), List.drop_zero, List.drop_zero]
    by_cases e : a = b
    · rw [if_pos e, decide_eq_true e]
    · rw [if_neg e, decide_eq_false e]
  · rw [if_pos (by omega), decide_eq_false (fun e => h (by rw [e]))]
theorem canR_len (t : List Nd) : (canR t).length ≤ 512 := by
  unfold canR
  split
  · rename_i h; rw [List.length_map]; exact vdB_len h
  · simp
theorem typesCanon_true (a b : List Int) (ha : a.length ≤ maxLen ∧ ∀ x ∈ a, (Lit.int .i64 x).wf = true) (hb : b.length ≤ maxLen ∧ ∀ x ∈ b, (Lit.int .i64 x).wf = true) : m_law7_TypesCanon a b = some true := by
  obtain ⟨p, i1, h1, _, hp⟩ := vTyp (V := 3) (by omega) (by omega) 2 (by omega) (gs_new ha) 3 (by omega)
  obtain ⟨q, i2, h2, _, hq⟩ := vTyp (V := 3) (by omega) (by omega) 2 (by omega) (gs_new hb) 3 (by omega)
  have vp := hp.vd (by omega)
  have vq := hq.vd (by omega)
  obtain ⟨r1, k1, m1, c1, _⟩ := vMatch vp vq
  obtain ⟨r2, k2, m2, c2, _⟩ := vMatch vq vp
  unfold m_law7_TypesCanon m_gen_New
  rw [bnd1_mk]
  dsimp only
  rw [h1, bnd1_mk, bnd1_mk]
  dsimp only
  rw [h2, bnd1_mk]
  dsimp only
  rw [vCanon, bnd1_mk, vCanon, bnd1_mk, m1, bnd1_mk, m2, bnd1_mk, jn_eq, awake7, bnd1_mk, if_pos rfl, vCanon, bnd1_mk, can_idem vp, eqNode _ (by have := canR_len p; omega), bnd1_mk, if_pos rfl, vEqH _ _ (by have := canR_len p; omega), bnd1_mk]
  dsimp only
  by_cases e : canR p = canR q
  · have e1 : k1 = true := c1.2 (can_inst vp vq e)
    have e2 : k2 = true := c2.2 (can_inst vq vp e.symm)
    rw [e1, e2, if_pos rfl, decide_eq_true e]; rfl
  · rw [decide_eq_false e]
    cases hk1 : k1 with
    | false => rfl
    | true =>
      cases hk2 : k2 with
      | false => rfl
      | true =>
        obtain ⟨σ, s1, s2⟩ := c1.1 hk1
        obtain ⟨τ, t1, t2⟩ := c2.1 hk2
        exact absurd (inst_ren vp vq s1 t1 s2 t2) e
end Go.Proofs.YtdfdjgolijckfaaDoor
/- TypesCanon: for every input the call returns true, and the arguments read as before. No condition. -/
namespace Go.Proofs.YtdfdjgolijckfaaDoor
open Go.ChangeShapes Go.WideShapes Go.ChangeAt Go.RowKit

theorem o_int : Opens Tryd.prog 3 1 (fun x : Int => [.exact (.int .i64 x)]) (fun _ => 1) (fun x => (Lit.int .i64 x).wf = true) := fun e0 W fuel cs y h => (opens_int Tryd.underlying3) e0 W fuel cs y h
theorem o_L_int : Opens Tryd.prog 23 1 (fun xs : List Int => [.row 1 c_int xs]) (fun xs => szL (fun _ => 1) xs + 1) (fun xs => xs.length ≤ maxLen ∧ ∀ x ∈ xs, (fun x => (Lit.int .i64 x).wf = true) x) := fun e0 W fuel cs y h => (opens_slice Tryd.underlying23 (by kernel_rfl) (by decide) o_int) e0 W fuel cs y h
theorem door_met (os : Os) (args : Array Value) : laidMetH Tryd.prog Rows.typesCanonRow.laid ((World.doorLaid Tryd.prog 400 os).forCall (fun _ _ => 0) ⟨#[], args, []⟩).memory :=
  laidMetH_of_parts3 (fuel := 8) (laidMet_of_run' 8 (by kernel_rfl) (by kernel_rfl)) (by kernel_rfl) (by kernel_rfl)
set_option maxRecDepth 100000 in
theorem typesCanon_lifted (os : Os) (started : os.Started) (H : Type) (enc : TypeId × Value → H) :
    ReturnsInHanded {} Tryd.checked os 11 .any (fun w args => (Rows.typesCanonSpec.pre enc Tryd.prog Tryd.f11 Rows.typesCanonRow.domain false w args ∧ laidMetH Tryd.prog Rows.typesCanonRow.laid w) ∧ sizedMet enc Tryd.prog Tryd.f11 (OpenSpec.ofChange Rows.typesCanonSpec) false w args) (Rows.typesCanonSpec.post enc Tryd.prog Tryd.f11 false true false false) := by
  refine returnsInHanded_of_change_and (C := Tryd.checked) (X := fun w _ => laidMetH Tryd.prog Rows.typesCanonRow.laid w) (fun _ _ _ hh h => h.of_heap hh) Tryd.own started (by kernel_rfl) Tryd.func11
    (ChangeSpec.witness_shaped (enc := enc) (C := Tryd.checked) (os := os) (X := fun w _ => laidMetH Tryd.prog Rows.typesCanonRow.laid w) false (World.doorLaid Tryd.prog 400 os) #[.slice none 0 0, .slice none 0 0] 8 rfl (World.shaped_of_RefB (by kernel_rfl) (by kernel_rfl)) (by kernel_rfl) (by kernel_rfl) (by kernel_rfl) (door_met os _)) ?_
  intro W base args ds gs before hval0 hW _ _ hL _
  have hval : ∀ (j : Nat) t v, Tryd.f11.params[j]? = some t → args[j]? = some v → Value.okWide Tryd.prog W .any base t v := hval0
  have hW' := hW
  obtain ⟨p, q, hA0, hV, rfl, hfz, hnd⟩ := hW
  have hA : DataW.TrodAll enc Tryd.prog W 0 (fun _ => true) true Tryd.f11.params.toList args.toList ds p := hA0
  rw [Tryd.params11] at hA hval
  obtain ⟨v0, vs0, d0, ds0, p0, q0, hargs, rfl, rfl, h0, r0⟩ := trodAll_cons hA
  obtain ⟨v1, vs1, d1, ds1, p1, q1, rfl, rfl, rfl, h1, r1⟩ := trodAll_cons r0
  obtain ⟨rfl, rfl, rfl⟩ := trodAll_nil r1
  obtain rfl : args = #[v0, v1] := by cases args; simp_all
  obtain ⟨rfl, rfl⟩ := trodVars_none hV
  clear hA0
  simp only [List.append_nil] at hW'
  have hlt := hW'.lt
  obtain ⟨x0, qq0, g0, s0⟩ := arg_open o_L_int (plain_slice Tryd.underlying23 (hval 0 23 v0 rfl rfl)) h0
  obtain ⟨x1, qq1, g1, s1⟩ := arg_open o_L_int (plain_slice Tryd.underlying23 (hval 1 23 v1 rfl rfl)) h1
  refine (Pure.call (m_law7_TypesCanon_ok x0 x1 true (typesCanon_true x0 x1 qq0 qq1)) (vs := [v0, v1]) ⟨g0.1, g1.1, trivial⟩).mono fun e W' ⟨he, hb⟩ => ?_
  subst he
  exact ⟨_, rfl, post_of_below (pa := p0 ++ (p1 ++ [])) (pv := []) hW' (fun _ _ _ => trodAll_cons_mk (shut_bool Tryd.underlying4 true) trodAll_mk0)
    (fun sp hsp => trodAll_cons_mk (trod_after (by kernel_rfl) (of_decide_eq_true (by kernel_rfl)) h0 hb (fun x hx => hlt x (by simp [hx])) (fun x hx => by simp [hx]) sp hsp) (trodAll_cons_mk (trod_after (by kernel_rfl) (of_decide_eq_true (by kernel_rfl)) h1 hb (fun x hx => hlt x (by simp [hx])) (fun x hx => by simp [hx]) sp hsp) (trodAll_mk0)))
    (fun _ _ => rfl) (by simp) hb (ok_one (by kernel_rfl) rfl (okWide_bool_mk Tryd.underlying4 true))⟩

theorem typesCanon_holds : Rows.TypesCanonSaid :=
  OpenClaim.holds_of_wide 11 Tryd.f11 rfl rfl rfl rfl rfl rfl rfl ⟨rfl, rfl, rfl, rfl, rfl⟩ rfl rfl rfl rfl rfl (by kernel_rfl) Tryd.func11 (by kernel_rfl)
    (of_decide_eq_true (by kernel_rfl)) (by unfold Func.isWrapper; first | (rw [if_pos (by decide +kernel)]; kernel_rfl) | (rw [if_neg (by decide +kernel)]; exact ⟨rfl, rfl⟩))
    (fun os started H enc _ => typesCanon_lifted os started H enc)

theorem typesCanon_card_holds : Rows.TypesCanonCardSaid :=
  Claim7.holds_tied_plain_at .later [] [.data, .data, .data] true (true, "266afa1125f812094a6acd2f15ec6e17dfc0fe2faf4d68696ad7b3b06d247b04") false
    typesCanon_holds (fun _ h => by cases h) (by kernel_rfl) (fun _ h => by cases h) typesCanon_row_tie rfl ⟨rfl, rfl⟩ (by kernel_rfl) rfl
    (fun f fn hf hfn => by
      obtain rfl : f = 11 := Option.some.inj ((show Tryd.prog.funcNamed "cspcheck/cspchecklaw7.TypesCanon" = some 11 by kernel_rfl).symm.trans hf) |>.symm
      obtain rfl : fn = Tryd.f11 := (Option.some.inj (Tryd.func11.symm.trans hfn)).symm
      exact ⟨by kernel_rfl, fun j t ht => by
        rw [Tryd.params11] at ht
        have hm : t ∈ [23, 23] := by simpa using Array.mem_of_getElem? ht
        have hall : ([23, 23].all fun u => !Tryd.prog.wantsStandIn u) = true := by kernel_rfl
        exact (show Tryd.prog.wantsStandIn t = false by simpa using List.all_eq_true.1 hall t hm)⟩)
    (by kernel_rfl)
end Go.Proofs.YtdfdjgolijckfaaDoor
