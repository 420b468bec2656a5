/- Patterns: lists of code and trees; the program's reader. -/
import Derived.Test.YtpfdeahcjlfijaaQA1
import Derived.Test.YtpfdeahcjlfijaaQA0
namespace Go.Proofs.Ytpfdeahcjlfijaa
attribute [local irreducible] FU

abbrev Cd := Int × Int × Int
mutual
/-- The code of a pattern. -/
def ser : Nd → List Cd
  | .nil => []
  | .mk op n kids => (op, n, (kids.length : Int)) :: sers kids
def sers : List Nd → List Cd
  | [] => []
  | k :: l => ser k ++ sers l
end
theorem ser_mk (op n : Int) (kids : List Nd) : ser (.mk op n kids) = (op, n, (kids.length : Int)) :: sers kids := by rw [ser]
theorem sers_nil : sers [] = [] := by rw [sers]
theorem sers_cons (k : Nd) (l : List Nd) : sers (k :: l) = ser k ++ sers l := by rw [sers]
theorem sers_app : ∀ a b : List Nd, sers (a ++ b) = sers a ++ sers b
  | [], b => by rw [sers_nil]; rfl
  | x :: a, b => by rw [List.cons_append, sers_cons, sers_cons, sers_app a b, List.append_assoc]
def op0 : Nd → Int
  | .nil => 0
  | .mk op _ _ => op
/-- Trees without the nil pointer. -/
inductive Pr : Nd → Prop
  | mk {op n : Int} {kids : List Nd} (h : ∀ x ∈ kids, Pr x) : Pr (.mk op n kids)
theorem Pr.kids {op n : Int} {kids : List Nd} (h : Pr (.mk op n kids)) : ∀ x ∈ kids, Pr x := by cases h; assumption
theorem Pr.pos {t : Nd} (h : Pr t) : 1 ≤ (ser t).length := by
  cases h; rw [ser_mk]; simp
theorem sers_len : ∀ {l : List Nd}, (∀ x ∈ l, Pr x) → l.length ≤ (sers l).length
  | [], _ => by simp
  | x :: l, h => by
    have h1 := (h x (by simp)).pos
    have h2 := sers_len (l := l) (fun y hy => h y (by simp [hy]))
    rw [sers_cons, List.length_append, List.length_cons]; omega
mutual
theorem ser_uniq : ∀ (t t' : Nd) (r r' : List Cd), Pr t → Pr t' → ser t ++ r = ser t' ++ r' → t = t' ∧ r = r'
  | .nil, _, _, _, h, _, _ => by cases h
  | .mk op n kids, .nil, _, _, _, h, _ => by cases h
  | .mk op n kids, .mk op' n' kids', r, r', h, h', e => by
    rw [ser_mk, ser_mk, List.cons_append, List.cons_append] at e
    injection e with e1 e2
    simp only [Prod.mk.injEq] at e1
    obtain ⟨rfl, rfl, e3⟩ := e1
    obtain ⟨rfl, rfl⟩ := sers_uniq kids kids' r r' h.kids h'.kids (by omega) e2
    exact ⟨rfl, rfl⟩
theorem sers_uniq : ∀ (l l' : List Nd) (r r' : List Cd), (∀ x ∈ l, Pr x) → (∀ x ∈ l', Pr x) → l.length = l'.length → sers l ++ r = sers l' ++ r' → l = l' ∧ r = r'
  | [], [], _, _, _, _, _, e => by rw [sers_nil] at e; exact ⟨rfl, by simpa using e⟩
  | [], _ :: _, _, _, _, _, hl, _ => by simp at hl
  | _ :: _, [], _, _, _, _, hl, _ => by simp at hl
  | x :: l, x' :: l', r, r', h, h', hl, e => by
    rw [sers_cons, sers_cons, List.append_assoc, List.append_assoc] at e
    obtain ⟨rfl, e2⟩ := ser_uniq x x' _ _ (h x (by simp)) (h' x' (by simp)) e
    obtain ⟨rfl, rfl⟩ := sers_uniq l l' r r' (fun y hy => h y (by simp [hy])) (fun y hy => h' y (by simp [hy])) (by simpa using hl) e2
    exact ⟨rfl, rfl⟩
end

/-- The node has the number and the children of its operator. -/
def fmB (op n : Int) (kids : List Nd) : Bool :=
  if op = 30 ∨ op = 31 then decide (kids.length = 0 ∧ n = 0)
  else if op = 32 then decide (kids.length = 0)
  else if op = 33 then decide (kids.length = 0 ∧ (n = 0 ∨ n = 1))
  else if op = 34 then decide (2 ≤ kids.length ∧ kids.length ≤ 8 ∧ n = 0)
  else if op = 35 then decide (n = 0)
  else if op = 36 then decide (0 ≤ n ∧ n < kids.length ∧ (op0 (gi kids n) = 30 ∨ op0 (gi kids n) = 31))
  else if op = 37 then decide (kids.length ≤ 1 ∧ n = 0)
  else if op = 38 then true
  else if op = 39 ∨ op = 40 then decide (kids.length = 2 ∧ n = 0)
  else false
theorem gi_mem {α : Type} [Inhabited α] {xs : List α} {i : Int} (h0 : 0 ≤ i) (h1 : i < xs.length) : gi xs i ∈ xs := List.mem_of_getElem? (gi_get h0 h1)
theorem op0_un {t : Nd} (h : Pr t) : ∃ y, unN t = some y ∧ y.1 = op0 t := by
  cases h with | mk _ => exact ⟨_, rfl, rfl⟩
set_option maxRecDepth 10000 in
theorem pFormed (op n : Int) (kids : List Nd) (h : ∀ x ∈ kids, Pr x) : m_pattern_node_formed (mkN (op, n, kids)) = some (fmB op n kids) := by
  unfold m_pattern_node_formed
  have hun : unN (mkN (op, n, kids)) = some (op, n, kids) := rfl
  simp only [hun, bnd1_mk, jn_eq]
  unfold fmB
  by_cases c1 : op = 30
  · subst c1; by_cases h1 : kids.length = 0 <;> by_cases h2 : n = 0 <;> simp [h1, h2]
  by_cases c2 : op = 31
  · subst c2; by_cases h1 : kids.length = 0 <;> by_cases h2 : n = 0 <;> simp [h1, h2]
  by_cases c3 : op = 32
  · subst c3; simp
  by_cases c4 : op = 33
  · subst c4; by_cases h1 : kids.length = 0 <;> by_cases h2 : n = 0 <;> by_cases h3 : n = 1 <;> simp [h1, h2, h3]
  by_cases c5 : op = 34
  · subst c5
    by_cases h1 : 2 ≤ kids.length
    · by_cases h2 : kids.length ≤ 8
      · have e1 : (2 : Int) ≤ kids.length := by omega
        have e2 : (kids.length : Int) ≤ 8 := by omega
        simp [h1, h2, e1, e2]
      · have e1 : (2 : Int) ≤ kids.length := by omega
        have e2 : ¬ (kids.length : Int) ≤ 8 := by omega
        simp [h2, e1, e2]
    · have e1 : ¬ (2 : Int) ≤ kids.length := by omega
      simp [h1, e1]
  by_cases c6 : op = 35
  · subst c6; simp
  by_cases c7 : op = 36
  · subst c7
    by_cases h1 : 0 ≤ n
    · by_cases h2 : n < kids.length
      · obtain ⟨y, hy, hop⟩ := op0_un (h _ (gi_mem h1 h2))
        have hr : m_pattern_node_rest (mkN (36, n, kids)) = some (gi kids n) := by
          unfold m_pattern_node_rest
          simp only [show unN (mkN (36, n, kids)) = some (36, n, kids) from rfl, bnd1_mk]
          rw [need_pos ⟨h1, h2⟩]
        simp only [hr, bnd1_mk, hy, hop]
        by_cases h3 : op0 (gi kids n) = 30 <;> by_cases h4 : op0 (gi kids n) = 31 <;> simp [h1, h2, h3, h4]
      · simp [h1, h2]
    · simp [h1]
  by_cases c8 : op = 37
  · subst c8
    by_cases h1 : kids.length ≤ 1
    · have e1 : (kids.length : Int) ≤ 1 := by omega
      simp [h1, e1]
    · have e1 : ¬ (kids.length : Int) ≤ 1 := by omega
      simp [h1, e1]
  by_cases c9 : op = 38
  · subst c9; simp
  by_cases c10 : op = 39
  · subst c10
    by_cases h1 : kids.length = 2
    · have e1 : (kids.length : Int) = 2 := by omega
      simp [h1]
    · have e1 : ¬ (kids.length : Int) = 2 := by omega
      simp [h1, e1]
  by_cases c11 : op = 40
  · subst c11
    by_cases h1 : kids.length = 2
    · have e1 : (kids.length : Int) = 2 := by omega
      simp [h1]
    · have e1 : ¬ (kids.length : Int) = 2 := by omega
      simp [h1, e1]
  simp [c1, c2, c3, c4, c5, c6, c7, c8, c9, c10, c11]

/-- Well-formed, at most k deep. -/
inductive OkT : Nat → Nd → Prop
  | mk {k : Nat} {op n : Int} {kids : List Nd} (hf : fmB op n kids = true) (hk : ∀ x ∈ kids, OkT k x) : OkT (k + 1) (.mk op n kids)
theorem OkT.pr {k : Nat} {t : Nd} (h : OkT k t) : Pr t := by
  induction h with | mk hf hk ih => exact .mk ih
theorem not_ok0 {t : Nd} : ¬ OkT 0 t := fun h => by cases h
def RdSpec (k : Nat) (p : List Cd) (o : Option (Nd × List Cd × Bool)) : Prop :=
  (∃ t r, p = ser t ++ r ∧ OkT k t ∧ o = some (t, r, true)) ∨ ((∀ t r, p = ser t ++ r → ¬ OkT k t) ∧ ∃ t r, o = some (t, r, false))
theorem rd_loop (self : List Cd → Int → Option (Nd × List Cd × Bool)) (k : Nat) (d : Int) (a0 : List Cd) (hl : a0.length ≤ 1048576)
    (hs : ∀ q : List Cd, q.length ≤ 1048576 → RdSpec k q (self q (i64 (d + 1)))) (K : List Cd → List Nd → Option (Nd × List Cd × Bool)) :
    ∀ (m i n : Nat) (q : List Cd) (ks : List Nd), (i : Int) + m = (gi a0 0).2.2 → m < n → ks.length = i → i + m ≤ 1048576 → (∀ x ∈ ks, OkT k x) → q.length ≤ 1048576 → a0.drop 1 = sers ks ++ q →
      (∃ ks' q', a0.drop 1 = sers ks' ++ q' ∧ (∀ x ∈ ks', OkT k x) ∧ (ks'.length : Int) = (gi a0 0).2.2 ∧ m_pattern_read_L2 self a0 d K n q ks (i : Int) = K q' ks') ∨
      ((∀ ks' q', a0.drop 1 = sers ks' ++ q' → (ks'.length : Int) = (gi a0 0).2.2 → ¬ ∀ x ∈ ks', OkT k x) ∧ m_pattern_read_L2 self a0 d K n q ks (i : Int) = some (.nil, [], false)) := by
  intro m
  induction m with
  | zero =>
    intro i n q ks hi hn hk him hok hq ha
    obtain ⟨n, rfl⟩ : ∃ j, n = j + 1 := ⟨n - 1, by omega⟩
    refine .inl ⟨ks, q, ha, hok, by omega, ?_⟩
    rw [m_pattern_read_L2, m_pattern_read_B2, if_neg (by omega)]
  | succ m ih =>
    intro i n q ks hi hn hk him hok hq ha
    obtain ⟨n, rfl⟩ : ∃ j, n = j + 1 := ⟨n - 1, by omega⟩
    rw [m_pattern_read_L2, m_pattern_read_B2, if_pos (by omega)]
    rcases hs q hq with ⟨t, r, e, hokt, ho⟩ | ⟨hno, t, r, ho⟩
    · rw [ho, bnd1_mk]
      simp only [Bool.not_true, Bool.false_eq_true, if_false]
      rw [need_pos (by simp; omega), i64_succ (by omega)]
      refine ih (i + 1) n r (ks ++ [t]) (by omega) (by omega) (by simp [hk]) (by omega) (fun x hx => ?_) (by rw [e] at hq; simp at hq; omega) ?_
      · rcases List.mem_append.1 hx with hx | hx
        · exact hok x hx
        · obtain rfl : x = t := by simpa using hx
          exact hokt
      · rw [ha, e, sers_app, sers_cons, sers_nil]; simp
    · rw [ho, bnd1_mk]
      refine .inr ⟨fun ks' q' e' hl' hok' => ?_, by simp⟩
      have hlt : i < ks'.length := by omega
      have hsp : ks' = ks'.take i ++ ks'[i] :: ks'.drop (i + 1) := by rw [← List.drop_eq_getElem_cons hlt, List.take_append_drop]
      have e2 : sers (ks'.take i) ++ (ser ks'[i] ++ (sers (ks'.drop (i + 1)) ++ q')) = sers ks ++ q := by
        rw [← ha, e']
        conv => rhs; rw [hsp]
        rw [sers_app, sers_cons]; simp
      obtain ⟨_, e3⟩ := sers_uniq _ _ _ _ (fun x hx => (hok' x (List.mem_of_mem_take hx)).pr) (fun x hx => (hok x hx).pr) (by simp; omega) e2
      exact hno _ _ e3.symm (hok' _ (List.getElem_mem hlt))
theorem pRead : ∀ (k n : Nat) (p : List Cd) (d : Int), k < n → d + k = 65 → 1 ≤ d → p.length ≤ 1048576 → RdSpec k p (m_pattern_read_S n p d) := by
  intro k
  induction k with
  | zero =>
    intro n p d hn hd h1 hl
    obtain ⟨n, rfl⟩ : ∃ j, n = j + 1 := ⟨n - 1, by omega⟩
    refine .inr ⟨fun t r _ h => not_ok0 h, .nil, [], ?_⟩
    rw [m_pattern_read_S, m_pattern_read_F]
    simp only [jn_eq]
    by_cases hp : p.length = 0
    · rw [if_pos (by omega)]; simp
    · rw [if_neg (by omega), if_pos (by omega)]; simp
  | succ k ih =>
    intro n p d hn hd h1 hl
    obtain ⟨n, rfl⟩ : ∃ j, n = j + 1 := ⟨n - 1, by omega⟩
    rw [m_pattern_read_S, m_pattern_read_F]
    simp only [jn_eq]
    by_cases hp : p.length = 0
    · rw [if_pos (by omega)]
      refine .inr ⟨fun t r e h => ?_, .nil, [], by simp⟩
      have := h.pr.pos
      rw [List.length_eq_zero_iff.1 hp] at e
      have := congrArg List.length e
      simp at this; omega
    rw [if_neg (by omega), if_neg (by omega), need_pos (by omega)]
    obtain ⟨c, p', rfl⟩ : ∃ c p', p = c :: p' := by
      cases p with
      | nil => simp at hp
      | cons c p' => exact ⟨c, p', rfl⟩
    have hg : gi (c :: p') (0 : Int) = c := rfl
    have bad : ∀ t r, c :: p' = ser t ++ r → OkT (k + 1) t → ∃ op n kids, t = .mk op n kids ∧ c = (op, n, (kids.length : Int)) ∧ p' = sers kids ++ r ∧ (∀ x ∈ kids, OkT k x) ∧ fmB op n kids = true := by
      intro t r e h
      cases h with | @mk _ op n kids hf hk =>
      rw [ser_mk, List.cons_append] at e
      injection e with e1 e2
      exact ⟨op, n, kids, rfl, e1, e2, hk, hf⟩
    rw [hg]
    by_cases hc : c.2.2 < 0
    · rw [if_pos hc]
      refine .inr ⟨fun t r e h => ?_, .nil, [], by simp⟩
      obtain ⟨op, n, kids, _, rfl, _, _⟩ := bad t r e h
      simp at hc; omega
    rw [if_neg hc, need_pos (by omega)]
    by_cases hc2 : ((c :: p').length : Int) ≤ c.2.2
    · simp only [decide_eq_true hc2, if_true]
      refine .inr ⟨fun t r e h => ?_, .nil, [], rfl⟩
      obtain ⟨op, n, kids, _, rfl, e2, hk, _⟩ := bad t r e h
      have := sers_len (fun x hx => (hk x hx).pr)
      rw [e2] at hc2
      simp at hc2; omega
    simp only [decide_eq_false hc2, Bool.false_eq_true, if_false]
    rw [need_pos (by omega), need_pos (by omega), need_pos (by omega), need_pos (by omega)]
    have hFU := FU_ge
    obtain ⟨m, hm⟩ : ∃ m : Nat, c.2.2 = m := ⟨c.2.2.toNat, by omega⟩
    rcases rd_loop (m_pattern_read_S n) k d (c :: p') hl (fun q hq => by
        rw [i64_id (by omega)]
        exact ih n q (d + 1) (by omega) (by omega) (by omega) hq)
      (fun x0 x7 => bnd1 (m_pattern_node_formed (mkN (c.1, c.2.1, x7))) (fun y37 => some ((mkN (c.1, c.2.1, x7)), x0, y37))) m 0 FU (List.drop (Int.toNat 1) (c :: p')) [] (by rw [hg]; omega) (by simp at hc2 hl; omega) rfl (by simp at hc2 hl; omega) (fun x hx => by cases hx) (by simp at hl ⊢; omega) (by rw [sers_nil]; rfl) with ⟨ks, q, e, hok, hlen, hr⟩ | ⟨hno, hr⟩
    · rw [Int.natCast_zero] at hr
      rw [hr, pFormed _ _ _ (fun x hx => (hok x hx).pr), bnd1_mk]
      rw [hg] at hlen
      have e' : c :: p' = ser (.mk c.1 c.2.1 ks) ++ q := by
        rw [ser_mk, List.cons_append]
        have e1 : p' = sers ks ++ q := e
        rw [e1, hlen]
      cases hf : fmB c.1 c.2.1 ks with
      | true => exact .inl ⟨_, q, e', .mk hf hok, rfl⟩
      | false =>
        refine .inr ⟨fun t r e2 h => ?_, _, q, rfl⟩
        obtain ⟨rfl, _⟩ := ser_uniq _ _ _ _ (.mk (fun x hx => (hok x hx).pr)) h.pr (e'.symm.trans e2)
        cases h with | mk hf' _ => rw [hf] at hf'; cases hf'
    · rw [Int.natCast_zero] at hr
      rw [hr]
      refine .inr ⟨fun t r e h => ?_, .nil, [], rfl⟩
      obtain ⟨op, n, kids, _, rfl, e2, hk, _⟩ := bad t r e h
      exact hno kids r e2 rfl hk

/-- The pattern that a list is. -/
noncomputable def parse (p : List Cd) : Option Nd := by
  classical exact if h : ∃ t, p = ser t ∧ OkT 64 t ∧ p.length ≤ 8192 then some h.choose else none
theorem parse_some {p : List Cd} {t : Nd} : parse p = some t ↔ p = ser t ∧ OkT 64 t ∧ p.length ≤ 8192 := by
  unfold parse
  constructor
  · intro h
    split at h
    · rename_i hx
      injection h with h
      rw [← h]; exact hx.choose_spec
    · cases h
  · rintro ⟨h1, h2, h3⟩
    have hx : ∃ t, p = ser t ∧ OkT 64 t ∧ p.length ≤ 8192 := ⟨t, h1, h2, h3⟩
    rw [dif_pos hx]
    obtain ⟨g1, g2, _⟩ := hx.choose_spec
    obtain ⟨e, _⟩ := ser_uniq _ _ [] [] g2.pr h2.pr (by rw [← g1, ← h1])
    rw [e]
theorem pWhole (p : List Cd) (hl : p.length ≤ 1048576) : (∃ t, parse p = some t ∧ m_pattern_whole p = some (t, true)) ∨ (parse p = none ∧ ∃ t, m_pattern_whole p = some (t, false)) := by
  have hFU := FU_ge
  unfold m_pattern_whole m_pattern_read
  simp only [jn_eq]
  rcases pRead 64 FU p 1 (by omega) (by omega) (by omega) hl with ⟨t, r, e, hok, ho⟩ | ⟨hno, t, r, ho⟩
  · rw [ho, bnd1_mk]
    simp only [if_true]
    by_cases hr : r.length = 0
    · obtain rfl := List.length_eq_zero_iff.1 hr
      rw [List.append_nil] at e
      rw [if_pos (by simp)]
      by_cases h8 : p.length ≤ 8192
      · exact .inl ⟨t, parse_some.2 ⟨e, hok, h8⟩, by rw [decide_eq_true (by omega : (p.length : Int) ≤ 8192)]⟩
      · refine .inr ⟨?_, t, by rw [decide_eq_false (by omega : ¬ (p.length : Int) ≤ 8192)]⟩
        cases hp : parse p with
        | none => rfl
        | some t' => exact absurd (parse_some.1 hp).2.2 h8
    · rw [if_neg (by omega)]
      refine .inr ⟨?_, t, rfl⟩
      cases hp : parse p with
      | none => rfl
      | some t' =>
        obtain ⟨e', hok', _⟩ := parse_some.1 hp
        obtain ⟨_, e3⟩ := ser_uniq t t' r [] hok.pr hok'.pr (by rw [← e, ← e']; simp)
        exact absurd (by rw [e3]; rfl) hr
  · rw [ho, bnd1_mk]
    refine .inr ⟨?_, t, by simp⟩
    cases hp : parse p with
    | none => rfl
    | some t' =>
      obtain ⟨e', hok', _⟩ := parse_some.1 hp
      exact absurd hok' (hno t' [] (by rw [List.append_nil]; exact e'))
end Go.Proofs.Ytpfdeahcjlfijaa
/- Matching: what the program's match comes to. -/
namespace Go.Proofs.Ytpfdeahcjlfijaa
attribute [local irreducible] FU

abbrev Vl := List UInt8
theorem kind_vd {v : Vl} (h : kindW v ≠ 0) : Vd v := by
  unfold kindW at h
  split at h
  · rename_i hv; exact vldB_iff.1 hv
  · exact absurd rfl h
theorem kind_g0 {v : Vl} (h : kindW v ≠ 0) : kindW v = ((gi v 0).toNat : Int) := by
  have hv := kind_vd h
  unfold kindW; rw [if_pos (vldB_iff.2 hv)]
theorem kind_shape {v : Vl} (h : kindW v ≠ 0) : (kindW v = 1 ∧ ∃ b, b.length = 8 ∧ v = 1 :: b) ∨ (kindW v = 2 ∧ ∃ b : UInt8, b.toNat ≤ 1 ∧ v = [2, b]) ∨ (kindW v = 10 ∧ ∃ h l, v = [10, h, l]) ∨ (3 ≤ kindW v ∧ kindW v ≤ 9) := by
  have hk := kind_g0 h
  obtain ⟨hv, _⟩ := kind_vd h
  cases hv with
  | int k b hb => exact .inl ⟨by rw [hk]; rfl, b, hb, rfl⟩
  | bool k b hb => exact .inr (.inl ⟨by rw [hk]; rfl, b, hb, rfl⟩)
  | name k a b => exact .inr (.inr (.inl ⟨by rw [hk]; rfl, a, b, rfl⟩))
  | comp k c a b ps hc hn hp hf => exact .inr (.inr (.inr (by rw [hk, gi_0]; omega)))
/-- The number of a value. -/
noncomputable def numW (v : Vl) : Int := if kindW v = 1 then numV v else if kindW v = 2 then ((gi v 1).toNat : Int) else if kindW v = 10 then (((gi v 1).toNat * 256 + (gi v 2).toNat : Nat) : Int) else 0
theorem vNum (v : Vl) : m_value_Number v = some (numW v) := by
  unfold m_value_Number numW
  rw [vKind, bnd1_mk]
  by_cases h1 : kindW v = 1
  · rcases kind_shape (v := v) (by omega) with ⟨_, b, hb, rfl⟩ | ⟨h, _⟩ | ⟨h, _⟩ | h
    · rw [if_pos h1, if_pos h1, vInteger _ (by simp [hb]), bnd1_mk, numV, List.take_of_length_le (by simp [hb])]
    · omega
    · omega
    · omega
  rw [if_neg h1, if_neg h1]
  by_cases h2 : kindW v = 2
  · rcases kind_shape (v := v) (by omega) with ⟨h, _⟩ | ⟨_, b, hb, rfl⟩ | ⟨h, _⟩ | h
    · omega
    · rw [if_pos h2, if_pos h2, need_pos (by simp)]
    · omega
    · omega
  rw [if_neg h2, if_neg h2]
  by_cases h3 : kindW v = 10
  · rcases kind_shape (v := v) (by omega) with ⟨h, _⟩ | ⟨h, _⟩ | ⟨_, a, b, rfl⟩ | h
    · omega
    · omega
    · rw [if_pos h3, if_pos h3, need_pos (by simp), need_pos (by simp), i64_step]
    · omega
  rw [if_neg h3, if_neg h3]
theorem pSeq (l : List Vl) (hx : ∀ x ∈ l, x.length ≤ 1099511627776) : m_value_Seq l = some (cmpd 4 l) := by
  unfold m_value_Seq
  have := vCompound 4 l hx
  rw [show ((4 : UInt8).toNat : Int) = 4 from rfl] at this
  rw [this, bnd1_mk]
theorem Vd.len {v : Vl} (h : Vd v) : v.length ≤ 1099511627776 := by have := h.2; omega

/-! ### Joining lists -/
theorem pConcat (a : List (List Vl)) (ha : a.length ≤ 1000000) (hl : a.flatten.length ≤ 137438953472) : m_slices_Concat_L_api_Value_api_Value a = some a.flatten := by
  have hFU := FU_ge
  unfold m_slices_Concat_L_api_Value_api_Value
  simp only [jn_eq]
  have loop : ∀ (K : Int → Option (List Vl)) (m i n s : Nat), i + m = a.length → m < n → s + (a.drop i).flatten.length = a.flatten.length → m_slices_Concat_L_api_Value_api_Value_L2 a K n (s : Int) (i : Int) = K (a.flatten.length : Int) := by
    intro K m
    induction m with
    | zero =>
      intro i n s hi hn hs
      obtain ⟨n, rfl⟩ : ∃ j, n = j + 1 := ⟨n - 1, by omega⟩
      rw [List.drop_eq_nil_of_le (by omega), List.flatten_nil, List.length_nil, Nat.add_zero] at hs
      rw [m_slices_Concat_L_api_Value_api_Value_L2, m_slices_Concat_L_api_Value_api_Value_B2, if_neg (by omega), hs]
    | succ m ih =>
      intro i n s hi hn hs
      obtain ⟨n, rfl⟩ : ∃ j, n = j + 1 := ⟨n - 1, by omega⟩
      have hil : i < a.length := by omega
      rw [List.drop_eq_getElem_cons hil, List.flatten_cons, List.length_append] at hs
      rw [m_slices_Concat_L_api_Value_api_Value_L2, m_slices_Concat_L_api_Value_api_Value_B2, if_pos (by omega), need_pos (by omega), gi_nat hil, i64_id (by omega), if_neg (by omega), i64_succ (by omega)]
      have := ih (i + 1) n (s + a[i].length) (by omega) (by omega) (by omega)
      rw [Int.natCast_add] at this
      exact this
  have h1 := fun K => loop K a.length 0 FU 0 (by omega) (by omega) (by simp)
  simp only [Int.natCast_zero] at h1
  rw [h1]
  have hg : m_slices_Grow_L_api_Value_api_Value (a.flatten.length : Int) = some [] := by
    unfold m_slices_Grow_L_api_Value_api_Value
    simp only [jn_eq]
    rw [if_neg (by omega), show i64 (0 - 0) = 0 from by rw [i64_id (by omega)]; rfl, i64_id (by omega)]
    split
    · rw [need_pos (by omega), need_pos (by simp)]; simp
    · rfl
  rw [hg, bnd1_mk]
  have loop2 : ∀ (m i n : Nat) (s : List Vl), i + m = a.length → m < n → s ++ (a.drop i).flatten = a.flatten → m_slices_Concat_L_api_Value_api_Value_L4 a (fun x => some x) n s (i : Int) = some a.flatten := by
    intro m
    induction m with
    | zero =>
      intro i n s hi hn hs
      obtain ⟨n, rfl⟩ : ∃ j, n = j + 1 := ⟨n - 1, by omega⟩
      rw [List.drop_eq_nil_of_le (by omega)] at hs
      rw [m_slices_Concat_L_api_Value_api_Value_L4, m_slices_Concat_L_api_Value_api_Value_B4, if_neg (by omega)]
      simp at hs
      rw [hs]
    | succ m ih =>
      intro i n s hi hn hs
      obtain ⟨n, rfl⟩ : ∃ j, n = j + 1 := ⟨n - 1, by omega⟩
      have hil : i < a.length := by omega
      rw [List.drop_eq_getElem_cons hil, List.flatten_cons, ← List.append_assoc] at hs
      have hsl := congrArg List.length hs
      rw [List.length_append, List.length_append] at hsl
      rw [m_slices_Concat_L_api_Value_api_Value_L4, m_slices_Concat_L_api_Value_api_Value_B4, if_pos (by omega), need_pos (by omega), gi_nat hil, need_pos (by omega), i64_succ (by omega)]
      exact ih (i + 1) n _ (by omega) (by omega) hs
  have h2 := loop2 a.length 0 FU [] (by omega) (by omega) (by simp)
  rw [Int.natCast_zero] at h2
  exact h2

/-! ### What a pattern matches -/
noncomputable def mts (f : Nd → Vl → Option (List Vl)) : List Nd → List Vl → Option (List Vl)
  | [], [] => some []
  | x :: xs, y :: ys => match f x y with
    | none => none
    | some a => match mts f xs ys with
      | none => none
      | some b => some (a ++ b)
  | _, _ => none
/-- The values that the children are matched with. -/
noncomputable def subP (op n : Int) (c : Nat) (v : Vl) : Option (List Vl) :=
  if op = 34 then (if kindW v = 3 then some (prtW v) else none)
  else if op = 35 then (if kindW v = 4 then some (prtW v) else none)
  else if op = 37 then (if kindW v = 5 then some (prtW v) else none)
  else if op = 38 then (if kindW v = 7 ∧ numW (gi (prtW v) 0) = n then some ((prtW v).drop 1) else none)
  else if op = 36 then (if kindW v = 4 ∧ c - 1 ≤ (prtW v).length then
    some ((prtW v).take n.toNat ++ cmpd 4 (((prtW v).drop n.toNat).take ((prtW v).length - (c - 1))) :: (prtW v).drop ((prtW v).length - (c - 1 - n.toNat))) else none)
  else if op = 40 then some [v, v]
  else none
noncomputable def mt : Nat → Nd → Vl → Option (List Vl)
  | 0, _, _ => none
  | _ + 1, .nil, _ => none
  | k + 1, .mk op n kids, v =>
    if op = 30 then some [v]
    else if op = 31 then some []
    else if op = 32 then (if kindW v = 1 ∧ numW v = n then some [] else none)
    else if op = 33 then (if kindW v = 2 ∧ numW v = n then some [] else none)
    else match subP op n kids.length v with
      | none => none
      | some ps => mts (mt k) kids ps
theorem mts_len {f : Nd → Vl → Option (List Vl)} : ∀ {kids : List Nd} {ps : List Vl} {l : List Vl}, (∀ x ∈ kids, ∀ y l, f x y = some l → l.length ≤ (ser x).length) → mts f kids ps = some l → l.length ≤ (sers kids).length ∧ kids.length = ps.length
  | [], [], l, _, h => by simp only [mts] at h; cases h; simp
  | [], _ :: _, l, _, h => by simp only [mts] at h; cases h
  | _ :: _, [], l, _, h => by simp only [mts] at h; cases h
  | x :: xs, y :: ys, l, hf, h => by
    simp only [mts] at h
    split at h
    · cases h
    · rename_i a ha
      split at h
      · cases h
      · rename_i b hb
        cases h
        obtain ⟨h1, h2⟩ := mts_len (kids := xs) (ps := ys) (fun z hz => hf z (by simp [hz])) hb
        have := hf x (by simp) y a ha
        rw [sers_cons, List.length_append, List.length_append]
        simp
        omega
theorem mt_len : ∀ {k : Nat} {t : Nd} {v : Vl} {l : List Vl}, mt k t v = some l → l.length ≤ (ser t).length
  | 0, _, _, _, h => by simp only [mt] at h; cases h
  | k + 1, .nil, _, _, h => by simp only [mt] at h; cases h
  | k + 1, .mk op n kids, v, l, h => by
    rw [mt] at h
    rw [ser_mk, List.length_cons]
    split at h
    · cases h; simp
    split at h
    · cases h; simp
    split at h
    · split at h <;> cases h; simp
    split at h
    · split at h <;> cases h; simp
    split at h
    · cases h
    · have := (mts_len (fun x _ y l => mt_len (k := k)) h).1
      omega
def MSpec (o : Option (List Vl)) (vars : List Vl) (r : Option (List Vl × Bool)) : Prop := (∃ l, o = some l ∧ r = some (vars ++ l, true)) ∨ (o = none ∧ ∃ x, r = some (x, false))
theorem pEach_loop (self : Nd → Vl → List Vl → Option (List Vl × Bool)) (f : Nd → Vl → Option (List Vl)) (kids : List Nd) (ps : List Vl) (hk : kids.length = ps.length) (hkl : kids.length ≤ 1000000000)
    (hfl : ∀ x ∈ kids, ∀ y l, f x y = some l → l.length ≤ (ser x).length)
    (hs : ∀ x ∈ kids, ∀ y ∈ ps, ∀ vars : List Vl, vars.length + (ser x).length ≤ 137438953472 → MSpec (f x y) vars (self x y vars)) :
    ∀ (m i n : Nat) (vars : List Vl), i + m = kids.length → m < n → vars.length + (sers (kids.drop i)).length ≤ 137438953472 → MSpec (mts f (kids.drop i) (ps.drop i)) vars (m_pattern_each_L2 self kids ps (fun x => some (x, true)) n vars (i : Int)) := by
  intro m
  induction m with
  | zero =>
    intro i n vars hi hn hv
    obtain ⟨n, rfl⟩ : ∃ j, n = j + 1 := ⟨n - 1, by omega⟩
    rw [List.drop_eq_nil_of_le (by omega), List.drop_eq_nil_of_le (by omega), m_pattern_each_L2, m_pattern_each_B2, if_neg (by omega)]
    exact .inl ⟨[], by simp only [mts], by simp⟩
  | succ m ih =>
    intro i n vars hi hn hv
    obtain ⟨n, rfl⟩ : ∃ j, n = j + 1 := ⟨n - 1, by omega⟩
    have h1 : i < kids.length := by omega
    have h2 : i < ps.length := by omega
    rw [List.drop_eq_getElem_cons h1, sers_cons, List.length_append] at hv
    rw [List.drop_eq_getElem_cons h1, List.drop_eq_getElem_cons h2, m_pattern_each_L2, m_pattern_each_B2, if_pos (by omega), need_pos (by omega), need_pos (by omega), gi_nat h1, gi_nat h2]
    rcases hs _ (List.getElem_mem h1) _ (List.getElem_mem h2) vars (by omega) with ⟨l, e1, e2⟩ | ⟨e1, x, e2⟩
    · rw [e2, bnd1_mk]
      simp only [Bool.not_true, Bool.false_eq_true, if_false]
      have := hfl _ (List.getElem_mem h1) _ l e1
      rw [i64_succ (by omega)]
      have h3 := ih (i + 1) n (vars ++ l) (by omega) (by omega) (by simp; omega)
      unfold MSpec at h3 ⊢
      simp only [mts, e1]
      rcases h3 with ⟨l', e3, e4⟩ | ⟨e3, x, e4⟩
      · exact .inl ⟨l ++ l', by rw [e3], by rw [e4]; simp⟩
      · exact .inr ⟨by rw [e3], x, e4⟩
    · rw [e2, bnd1_mk]
      exact .inr ⟨by simp only [mts, e1], [], by simp⟩
theorem mts_ne {f : Nd → Vl → Option (List Vl)} : ∀ {kids : List Nd} {ps : List Vl}, kids.length ≠ ps.length → mts f kids ps = none
  | [], [], h => by simp at h
  | [], _ :: _, _ => by simp only [mts]
  | _ :: _, [], _ => by simp only [mts]
  | x :: xs, y :: ys, h => by
    simp only [mts]
    have := mts_ne (f := f) (kids := xs) (ps := ys) (by simpa using h)
    split
    · rfl
    · rw [this]
theorem pEach (self : Nd → Vl → List Vl → Option (List Vl × Bool)) (f : Nd → Vl → Option (List Vl)) (kids : List Nd) (ps : List Vl) (hkl : kids.length ≤ 1000000000)
    (hfl : ∀ x ∈ kids, ∀ y l, f x y = some l → l.length ≤ (ser x).length)
    (hs : ∀ x ∈ kids, ∀ y ∈ ps, ∀ vars : List Vl, vars.length + (ser x).length ≤ 137438953472 → MSpec (f x y) vars (self x y vars)) (vars : List Vl) (hv : vars.length + (sers kids).length ≤ 137438953472) :
    MSpec (mts f kids ps) vars (m_pattern_each self kids ps vars) := by
  have hFU := FU_ge
  unfold m_pattern_each
  simp only [jn_eq]
  by_cases hk : kids.length = ps.length
  · rw [if_neg (by omega)]
    have := pEach_loop self f kids ps hk hkl hfl hs kids.length 0 FU vars (by omega) (by omega) hv
    rw [Int.natCast_zero] at this
    exact this
  · rw [if_pos (by omega)]
    exact .inr ⟨mts_ne hk, [], rfl⟩
theorem MSpec.pair {o : Option (List Vl)} {vars : List Vl} {r : Option (List Vl × Bool)} (h : MSpec o vars r) : MSpec o vars (bnd1 r (fun y => some (y.1, y.2))) := by
  rcases h with ⟨l, e1, e2⟩ | ⟨e1, x, e2⟩
  · exact .inl ⟨l, e1, by rw [e2, bnd1_mk]⟩
  · exact .inr ⟨e1, x, by rw [e2, bnd1_mk]⟩
theorem dot_pos {v : Vl} (h : kindW v = 7) : 1 ≤ (prtW v).length := by
  have h1 := ((prtW_spec v).2.2.2.2 (by omega) (by omega)).1
  have h0 : gi v 0 = 7 := kind_gi (by rw [h]; rfl) (by decide)
  rw [h0] at h1
  simp [formedB] at h1
  exact h1.1
set_option maxRecDepth 10000 in
theorem pMatch : ∀ (k n : Nat) (t : Nd) (v : Vl) (vars : List Vl), k < n → OkT k t → (ser t).length ≤ 1000000 → vars.length + (ser t).length ≤ 137438953472 → MSpec (mt k t v) vars (m_pattern_node_match_S n t v vars) := by
  intro k
  induction k with
  | zero => intro n t v vars _ h; exact absurd h not_ok0
  | succ k ih =>
    intro n t v vars hn hok hs hv
    obtain ⟨n, rfl⟩ : ∃ j, n = j + 1 := ⟨n - 1, by omega⟩
    cases hok with | @mk _ op a kids hf hk =>
    rw [ser_mk, List.length_cons] at hs hv
    have hkl := sers_len (fun x hx => (hk x hx).pr)
    have hFU := FU_ge
    have hun : unN (.mk op a kids) = some (op, a, kids) := rfl
    have each : ∀ ps : List Vl, MSpec (mts (mt k) kids ps) vars (m_pattern_each (m_pattern_node_match_S n) kids ps vars) := fun ps => by
      refine pEach _ _ kids ps (by omega) (fun x _ y l h => mt_len h) (fun x hx y _ vs hvs => ih n x y vs (by omega) (hk x hx) ?_ hvs) vars (by omega)
      obtain ⟨s, t, rfl⟩ := List.append_of_mem hx
      rw [sers_app, sers_cons] at hs
      simp at hs; omega
    rw [m_pattern_node_match_S, m_pattern_node_match_F, vKind, bnd1_mk, vPartsW, bnd1_mk, hun, bnd1_mk]
    unfold m_pattern_node_compound
    simp only [jn_eq, hun, bnd1_mk, vNum]
    rw [mt]
    by_cases c1 : op = 30
    · rw [if_pos c1, if_pos c1, need_pos (by simp; omega)]; exact .inl ⟨[v], rfl, rfl⟩
    rw [if_neg c1, if_neg c1]
    by_cases c2 : op = 31
    · rw [if_pos c2, if_pos c2]; exact .inl ⟨[], rfl, by simp⟩
    rw [if_neg c2, if_neg c2]
    by_cases c3 : op = 32
    · rw [if_pos c3, if_pos c3]
      by_cases h1 : kindW v = 1 <;> by_cases h2 : numW v = a
      · exact .inl ⟨[], by simp [h1, h2], by simp [h1, h2]⟩
      all_goals exact .inr ⟨by simp [h1, h2], vars, by simp [h1, h2]⟩
    rw [if_neg c3, if_neg c3]
    by_cases c4 : op = 33
    · rw [if_pos c4, if_pos c4]
      by_cases h1 : kindW v = 2 <;> by_cases h2 : numW v = a
      · exact .inl ⟨[], by simp [h1, h2], by simp [h1, h2]⟩
      all_goals exact .inr ⟨by simp [h1, h2], vars, by simp [h1, h2]⟩
    rw [if_neg c4, if_neg c4]
    by_cases c5 : op = 34
    · rw [if_pos c5]
      unfold subP
      rw [if_pos c5]
      by_cases h1 : kindW v = 3
      · simp only [h1, decide_true, Bool.not_true, Bool.false_eq_true, if_false, if_true]
        exact (each _).pair.pair
      · simp only [h1, decide_false, Bool.not_false, if_true, if_false, bnd1_mk]
        exact .inr ⟨rfl, [], rfl⟩
    rw [if_neg c5]
    by_cases c6 : op = 35
    · rw [if_pos c6]
      unfold subP
      rw [if_neg c5, if_pos c6]
      by_cases h1 : kindW v = 4
      · simp only [h1, decide_true, Bool.not_true, Bool.false_eq_true, if_false, if_true]
        exact (each _).pair.pair
      · simp only [h1, decide_false, Bool.not_false, if_true, if_false, bnd1_mk]
        exact .inr ⟨rfl, [], rfl⟩
    rw [if_neg c6]
    by_cases c7 : op = 37
    · rw [if_pos c7]
      unfold subP
      rw [if_neg c5, if_neg c6, if_pos c7]
      by_cases h1 : kindW v = 5
      · simp only [h1, decide_true, Bool.not_true, Bool.false_eq_true, if_false, if_true]
        exact (each _).pair.pair
      · simp only [h1, decide_false, Bool.not_false, if_true, if_false, bnd1_mk]
        exact .inr ⟨rfl, [], rfl⟩
    rw [if_neg c7]
    by_cases c8 : op = 38
    · rw [if_pos c8]
      unfold subP
      rw [if_neg c5, if_neg c6, if_neg c7, if_pos c8]
      by_cases h1 : kindW v = 7
      · have hp := dot_pos h1
        by_cases h2 : numW (gi (prtW v) 0) = a
        · rw [if_pos (show kindW v = 7 ∧ numW (gi (prtW v) 0) = a from ⟨h1, h2⟩), if_neg (show ¬ ¬ kindW v = 7 from fun h => h h1), need_pos (by omega)]
          simp only [h2, not_true_eq_false, decide_false, Bool.false_eq_true, if_false]
          rw [need_pos (by omega)]
          exact (each _).pair
        · rw [if_neg (show ¬ (kindW v = 7 ∧ numW (gi (prtW v) 0) = a) from fun h => h2 h.2), if_neg (show ¬ ¬ kindW v = 7 from fun h => h h1), need_pos (by omega)]
          simp only [h2, not_false_eq_true, decide_true, if_true]
          exact .inr ⟨rfl, [], rfl⟩
      · rw [if_neg (show ¬ (kindW v = 7 ∧ numW (gi (prtW v) 0) = a) from fun h => h1 h.1), if_pos (show ¬ kindW v = 7 from h1)]
        simp only [if_true]
        exact .inr ⟨rfl, [], rfl⟩
    rw [if_neg c8]
    by_cases c9 : op = 36
    · rw [if_pos c9]
      unfold subP
      rw [if_neg c5, if_neg c6, if_neg c7, if_neg c8, if_pos c9]
      subst c9
      simp [fmB] at hf
      obtain ⟨f1, f2, _⟩ := hf
      have q1 := (prtW_spec v).1
      have q2 := (prtW_spec v).2.1
      by_cases h1 : kindW v = 4
      · rw [if_neg (show ¬ ¬ kindW v = 4 from fun h => h h1), i64_id (x := (kids.length : Int) - 1) (by omega)]
        by_cases h2 : kids.length - 1 ≤ (prtW v).length
        · rw [if_pos (show kindW v = 4 ∧ kids.length - 1 ≤ (prtW v).length from ⟨h1, h2⟩)]
          have e0 : ¬ ((prtW v).length : Int) < (kids.length : Int) - 1 := by omega
          simp only [e0, decide_false, Bool.false_eq_true, if_false]
          rw [i64_id (x := (kids.length : Int) - 1 - a) (by omega), i64_id (by omega), need_pos (by omega), need_pos (by omega)]
          have e1 : Int.toNat ((prtW v).length - ((kids.length : Int) - 1 - a)) = (prtW v).length - (kids.length - 1 - a.toNat) := by omega
          have e2 : (prtW v).length - (kids.length - 1 - a.toNat) - a.toNat = (prtW v).length - (kids.length - 1) := by omega
          rw [e1, e2, pSeq _ (fun x hx => (q1 x (List.mem_of_mem_drop (List.mem_of_mem_take hx))).len), bnd1_mk, need_pos (by omega), pConcat _ (by simp) (by simp; omega), bnd1_mk]
          have e3 := (each ((prtW v).take a.toNat ++ cmpd 4 (((prtW v).drop a.toNat).take ((prtW v).length - (kids.length - 1))) :: (prtW v).drop ((prtW v).length - (kids.length - 1 - a.toNat)))).pair
          simpa using e3
        · rw [if_neg (show ¬ (kindW v = 4 ∧ kids.length - 1 ≤ (prtW v).length) from fun h => h2 h.2)]
          have e0 : ((prtW v).length : Int) < (kids.length : Int) - 1 := by omega
          simp only [e0, decide_true, if_true]
          exact .inr ⟨rfl, [], rfl⟩
      · rw [if_neg (show ¬ (kindW v = 4 ∧ kids.length - 1 ≤ (prtW v).length) from fun h => h1 h.1), if_pos (show ¬ kindW v = 4 from h1)]
        simp only [if_true]
        exact .inr ⟨rfl, [], rfl⟩
    rw [if_neg c9]
    by_cases c10 : op = 40
    · rw [if_pos c10]
      unfold subP
      rw [if_neg c5, if_neg c6, if_neg c7, if_neg c8, if_neg c9, if_pos c10]
      exact (each [v, v]).pair
    rw [if_neg c10]
    unfold subP
    rw [if_neg c5, if_neg c6, if_neg c7, if_neg c8, if_neg c9, if_neg c10]
    exact .inr ⟨rfl, [], rfl⟩
theorem pClipL (l : List Vl) : m_slices_Clip_L_api_Value_api_Value l = some l := vClip l
/-- Match. -/
noncomputable def matchW (p : List Cd) (v : Vl) : Option (List Vl) := match parse p with
  | none => none
  | some t => if vldB v = true then mt 64 t v else none
theorem pMatchW (p : List Cd) (v : Vl) (hl : p.length ≤ 1048576) : m_pattern_Match p v = some (match matchW p v with | none => ([], false) | some l => (l, true)) := by
  have hFU := FU_ge
  unfold m_pattern_Match matchW m_pattern_node_match
  simp only [jn_eq]
  rcases pWhole p hl with ⟨t, e1, e2⟩ | ⟨e1, t, e2⟩
  · obtain ⟨rfl, hok, h8⟩ := parse_some.1 e1
    rw [e2, bnd1_mk, e1]
    simp only [Bool.not_true, Bool.false_eq_true, if_false]
    rw [vValid, bnd1_mk]
    cases hv : vldB v with
    | false => simp
    | true =>
      simp only [Bool.not_true, Bool.false_eq_true, if_false, if_true]
      rcases pMatch 64 FU t v [] (by omega) hok (by omega) (by simp; omega) with ⟨l, h1, h2⟩ | ⟨h1, x, h2⟩
      · rw [h2, h1, bnd1_mk]
        simp only [Bool.not_true, Bool.false_eq_true, if_false, List.nil_append]
        rw [pClipL, bnd1_mk]
      · rw [h2, h1, bnd1_mk]
        simp
  · rw [e2, bnd1_mk, e1]
    simp
end Go.Proofs.Ytpfdeahcjlfijaa
/- Building values, and properties of all nodes. -/
namespace Go.Proofs.Ytpfdeahcjlfijaa
attribute [local irreducible] FU

/-! ### All nodes -/
mutual
def allT (g : Nd → Bool) : Nd → Bool
  | .nil => g .nil
  | .mk op n kids => g (.mk op n kids) && allTs g kids
def allTs (g : Nd → Bool) : List Nd → Bool
  | [] => true
  | k :: l => allT g k && allTs g l
end
theorem allT_mk (g : Nd → Bool) (op n : Int) (kids : List Nd) : allT g (.mk op n kids) = (g (.mk op n kids) && allTs g kids) := by rw [allT]
theorem allTs_all (g : Nd → Bool) : ∀ l : List Nd, allTs g l = l.all (allT g)
  | [] => by rw [allTs]; rfl
  | k :: l => by rw [allTs, allTs_all g l]; rfl
def hd : Nd → Cd
  | .nil => (0, 0, 0)
  | .mk op n kids => (op, n, (kids.length : Int))
mutual
theorem allT_ser (c : Cd → Bool) : ∀ t, Pr t → allT (fun t => c (hd t)) t = (ser t).all c
  | .nil, h => by cases h
  | .mk op n kids, h => by
    rw [allT_mk, ser_mk, List.all_cons, allTs_ser c kids h.kids]; rfl
theorem allTs_ser (c : Cd → Bool) : ∀ l, (∀ x ∈ l, Pr x) → allTs (fun t => c (hd t)) l = (sers l).all c
  | [], _ => by rw [allTs, sers_nil]; rfl
  | k :: l, h => by
    rw [allTs, sers_cons, List.all_append, allT_ser c k (h k (by simp)), allTs_ser c l (fun x hx => h x (by simp [hx]))]
end
theorem pContains (f : Nd → Option Bool) (g : Nd → Bool) (l : List Nd) (hf : ∀ x ∈ l, f x = some (g x)) (hl : l.length ≤ 1099511627776) : m_slices_ContainsFunc_L_pattern_node_pattern_node l f = some (l.any g) := by
  have hFU := FU_ge
  unfold m_slices_ContainsFunc_L_pattern_node_pattern_node m_slices_IndexFunc_L_pattern_node_pattern_node
  rw [jn_eq]
  have loop : ∀ (m i n : Nat), i + m = l.length → m < n → ∃ r, m_slices_IndexFunc_L_pattern_node_pattern_node_L2 l f (fun _ => some (-1)) n i = some r ∧ decide (0 ≤ r) = (l.drop i).any g := by
    intro m
    induction m with
    | zero =>
      intro i n hi hn
      obtain ⟨n, rfl⟩ : ∃ k, n = k + 1 := ⟨n - 1, by omega⟩
      refine ⟨-1, by rw [m_slices_IndexFunc_L_pattern_node_pattern_node_L2, m_slices_IndexFunc_L_pattern_node_pattern_node_B2, if_neg (by omega)], ?_⟩
      rw [List.drop_eq_nil_of_le (by omega)]; rfl
    | succ m ih =>
      intro i n hi hn
      obtain ⟨n, rfl⟩ : ∃ k, n = k + 1 := ⟨n - 1, by omega⟩
      have hil : i < l.length := by omega
      rw [m_slices_IndexFunc_L_pattern_node_pattern_node_L2, m_slices_IndexFunc_L_pattern_node_pattern_node_B2, if_pos (by omega), need_pos (by omega), gi_nat hil, hf _ (List.getElem_mem hil), bnd1_mk, List.drop_eq_getElem_cons hil, List.any_cons]
      cases hp : g l[i] with
      | true => exact ⟨i, rfl, by simp⟩
      | false =>
        rw [if_neg (by simp), i64_succ (by omega)]
        obtain ⟨r, h1, h2⟩ := ih (i + 1) n (by omega) (by omega)
        exact ⟨r, h1, by rw [h2]; simp⟩
  obtain ⟨r, h1, h2⟩ := loop l.length 0 FU (by omega) (by omega)
  rw [Int.natCast_zero] at h1
  rw [h1, bnd1_mk, h2, List.drop_zero]
theorem pAll (f : Nd → Option Bool) (g : Nd → Bool) (hf : ∀ t, Pr t → f t = some (g t)) : ∀ (k n : Nat) (t : Nd), k < n → OkT k t → (ser t).length ≤ 1000000 → m_pattern_node_all_S n t f = some (allT g t) := by
  intro k
  induction k with
  | zero => intro n t _ h; exact absurd h not_ok0
  | succ k ih =>
    intro n t hn hok hs
    obtain ⟨n, rfl⟩ : ∃ j, n = j + 1 := ⟨n - 1, by omega⟩
    cases hok with | @mk _ op a kids hfm hk =>
    rw [ser_mk, List.length_cons] at hs
    have hkl := sers_len (fun x hx => (hk x hx).pr)
    rw [m_pattern_node_all_S, m_pattern_node_all_F, jn_eq, hf _ (.mk fun x hx => (hk x hx).pr), bnd1_mk, allT_mk]
    cases hg : g (.mk op a kids) with
    | false => rfl
    | true =>
      rw [if_pos rfl, show unN (.mk op a kids) = some (op, a, kids) from rfl, bnd1_mk, pContains _ (fun x => ! allT g x) kids (fun x hx => by
        unfold m_pattern_node_all_1
        rw [ih n x (by omega) (hk x hx) (by obtain ⟨s, t, rfl⟩ := List.append_of_mem hx; rw [sers_app, sers_cons] at hs; simp at hs; omega), bnd1_mk]) (by omega), bnd1_mk, allTs_all]
      congr 1
      induction kids with
      | nil => rfl
      | cons x l _ => simp [List.all_eq_not_any_not]

/-! ### Variables -/
def cntV (l : List Cd) : Nat := (l.filter fun c => decide (c.1 = 30)).length
theorem cntV_app (a b : List Cd) : cntV (a ++ b) = cntV a + cntV b := by simp [cntV]
theorem cntV_cons (c : Cd) (l : List Cd) : cntV (c :: l) = (if c.1 = 30 then 1 else 0) + cntV l := by
  unfold cntV
  by_cases h : c.1 = 30
  · simp [h]; omega
  · simp [h]
theorem pVars (p : List Cd) (hl : p.length ≤ 1000000000) : m_pattern_Vars p = some (cntV p : Int) := by
  have hFU := FU_ge
  unfold m_pattern_Vars
  rw [jn_eq]
  have loop : ∀ (m i n s : Nat), i + m = p.length → m < n → s + m ≤ 1000000000 → m_pattern_Vars_L2 p (fun x => some x) n (s : Int) (i : Int) = some ((s + cntV (p.drop i) : Nat) : Int) := by
    intro m
    induction m with
    | zero =>
      intro i n s hi hn hs
      obtain ⟨n, rfl⟩ : ∃ k, n = k + 1 := ⟨n - 1, by omega⟩
      rw [m_pattern_Vars_L2, m_pattern_Vars_B2, if_neg (by omega), List.drop_eq_nil_of_le (by omega)]; rfl
    | succ m ih =>
      intro i n s hi hn hs
      obtain ⟨n, rfl⟩ : ∃ k, n = k + 1 := ⟨n - 1, by omega⟩
      have hil : i < p.length := by omega
      rw [m_pattern_Vars_L2, m_pattern_Vars_B2, if_pos (by omega), jn_eq, need_pos (by omega), gi_nat hil, List.drop_eq_getElem_cons hil, i64_succ (by omega)]
      by_cases h : (p[i]).1 = 30
      · rw [if_pos h, i64_succ (by omega)]
        show m_pattern_Vars_L2 p (fun x => some x) n ((s + 1 : Nat) : Int) ((i + 1 : Nat) : Int) = _
        rw [ih (i + 1) n (s + 1) (by omega) (by omega) (by omega)]
        rw [cntV_cons, if_pos h]
        congr 2
        omega
      · rw [if_neg h]
        show m_pattern_Vars_L2 p (fun x => some x) n (s : Int) ((i + 1 : Nat) : Int) = _
        rw [ih (i + 1) n s (by omega) (by omega) (by omega)]
        rw [cntV_cons, if_neg h]
        congr 2
        omega
  have := loop p.length 0 FU 0 (by omega) (by omega) (by omega)
  simp only [Int.natCast_zero, Nat.zero_add, List.drop_zero] at this
  exact this

/-! ### Irrefutable -/
def irrC (c : Cd) : Bool := decide (c.1 = 30 ∨ c.1 = 31 ∨ c.1 = 34 ∨ c.1 = 40)
def nbC (c : Cd) : Bool := decide (c.1 ≠ 31 ∧ c.1 ≠ 40 ∧ c.1 ≠ 39)
theorem pIrr1 (t : Nd) (h : Pr t) : m_pattern_Irrefutable_1 t = some (irrC (hd t)) := by
  cases h with | @mk op n kids h =>
  unfold m_pattern_Irrefutable_1
  simp only [jn_eq, show unN (.mk op n kids) = some (op, n, kids) from rfl, bnd1_mk]
  unfold irrC hd
  by_cases h1 : op = 30 <;> by_cases h2 : op = 31 <;> by_cases h3 : op = 34 <;> by_cases h4 : op = 40 <;> simp [h1, h2, h3, h4]
theorem pBuild1 (t : Nd) (h : Pr t) : m_pattern_Build_1 t = some (nbC (hd t)) := by
  cases h with | @mk op n kids h =>
  unfold m_pattern_Build_1
  simp only [jn_eq, show unN (.mk op n kids) = some (op, n, kids) from rfl, bnd1_mk]
  unfold nbC hd
  by_cases h1 : op = 31 <;> by_cases h2 : op = 40 <;> by_cases h3 : op = 39 <;> simp [h1, h2, h3]
noncomputable def irrW (p : List Cd) : Bool := (parse p).isSome && p.all irrC
theorem pIrrW (p : List Cd) (hl : p.length ≤ 1048576) : m_pattern_Irrefutable p = some (irrW p) := by
  have hFU := FU_ge
  unfold m_pattern_Irrefutable irrW m_pattern_node_all
  rcases pWhole p hl with ⟨t, e1, e2⟩ | ⟨e1, t, e2⟩
  · obtain ⟨rfl, hok, h8⟩ := parse_some.1 e1
    rw [e2, bnd1_mk, e1, jn_eq]
    simp only [if_true]
    rw [pAll _ (fun t => irrC (hd t)) pIrr1 64 FU t (by omega) hok (by omega), bnd1_mk, allT_ser _ _ hok.pr]; rfl
  · rw [e2, bnd1_mk, e1, jn_eq]; rfl

/-! ### Building -/
def bds (f : Nd → List Vl → Vl × List Vl) : List Nd → List Vl → List Vl × List Vl
  | [], l => ([], l)
  | x :: xs, l => ((f x l).1 :: (bds f xs (f x l).2).1, (bds f xs (f x l).2).2)
def boolW (b : Bool) : Vl := if b then [2, 1] else [2, 0]
noncomputable def finW (op n : Int) (ps : List Vl) : Vl :=
  if op = 34 then cmpd 3 ps else if op = 35 then cmpd 4 ps else if op = 37 then setW ps
  else if op = 38 then (if n < 0 ∨ 65536 ≤ n then [] else cmpd 7 (nameW n :: ps))
  else if kindW (gi ps n) = 4 then cmpd 4 (ps.take n.toNat ++ prtW (gi ps n) ++ ps.drop (n.toNat + 1)) else []
noncomputable def bd : Nat → Nd → List Vl → Vl × List Vl
  | 0, _, l => ([], l)
  | _ + 1, .nil, l => ([], l)
  | k + 1, .mk op n kids, l =>
    if op = 30 then (gi l 0, l.drop 1)
    else if op = 32 then (intW n, l)
    else if op = 33 then (boolW (decide (n = 1)), l)
    else (finW op n (bds (bd k) kids l).1, (bds (bd k) kids l).2)
theorem bds_len (f : Nd → List Vl → Vl × List Vl) : ∀ (kids : List Nd) (l : List Vl), (bds f kids l).1.length = kids.length
  | [], _ => rfl
  | x :: xs, l => by simp [bds, bds_len f xs]
theorem cmpd_len (c : UInt8) (l : List Vl) : (cmpd c l).length ≤ 131072 := by
  by_cases h : cmpd c l = []
  · rw [h]; simp
  · have := cmpd_ne.1 h
    rw [cmpd_yes this]; exact this.2.2.2
theorem finW_len (op n : Int) (ps : List Vl) : (finW op n ps).length ≤ 131072 := by
  unfold finW
  repeat' split
  all_goals first | exact cmpd_len _ _ | exact cmpd_len 5 _ | simp
theorem pTuple (l : List Vl) (hx : ∀ x ∈ l, x.length ≤ 1099511627776) : m_value_Tuple l = some (cmpd 3 l) := by
  unfold m_value_Tuple
  have := vCompound 3 l hx
  rw [show ((3 : UInt8).toNat : Int) = 3 from rfl] at this
  rw [this, bnd1_mk]
theorem pName {k : Int} (h0 : 0 ≤ k) (h1 : k ≤ 65535) : m_value_Name k = some (nameW k) := by
  unfold m_value_Name
  simp only [jn_eq]
  unfold m_value_append16
  have e : IntKind.u16.wrap k = k := by
    unfold IntKind.wrap IntKind.bits IntKind.signed
    simp; omega
  rw [if_neg (by omega), if_neg (by simp; omega), e, need_pos (by simp), show (2 : Int) ^ min (Int.toNat 8) IntKind.u16.bits = 256 from rfl, Int.fdiv_eq_ediv_of_nonneg _ (by omega), bnd1_mk]; rfl
theorem pDot {k : Int} (h0 : 0 ≤ k) (h1 : k ≤ 65535) (l : List Vl) (hl : l.length ≤ 1000000000) (hx : ∀ x ∈ l, x.length ≤ 1099511627776) : m_value_Dot k l = some (cmpd 7 (nameW k :: l)) := by
  unfold m_value_Dot
  have := vCompound 7 ([nameW k] ++ l) (fun x h => by
    rcases List.mem_cons.1 h with rfl | h
    · simp [nameW]
    · exact hx x h)
  rw [show ((7 : UInt8).toNat : Int) = 7 from rfl] at this
  rw [pName h0 h1, bnd1_mk, need_pos (by simp; omega), this, bnd1_mk]; rfl
def BSpec (t : Nd) (l : List Vl) (b : Vl × List Vl) (r : Option (Vl × List Vl)) : Prop := r = some b ∧ b.2 = l.drop (cntV (ser t)) ∧ b.1.length ≤ 1048576
theorem pBuild_loop (self : Nd → List Vl → Option (Vl × List Vl)) (f : Nd → List Vl → Vl × List Vl) (K : List Vl → List Vl → Option (Vl × List Vl)) (op a : Int) (kids : List Nd) (hkl : kids.length ≤ 1000000)
    (hs : ∀ x ∈ kids, ∀ l : List Vl, cntV (ser x) ≤ l.length → (∀ y ∈ l, y.length ≤ 1048576) → BSpec x l (f x l) (self x l)) :
    ∀ (m i n : Nat) (l out : List Vl), i + m = kids.length → m < n → out.length = i → cntV (sers (kids.drop i)) ≤ l.length → (∀ y ∈ l, y.length ≤ 1048576) →
      m_pattern_node_build_L2 self K (op, a, kids) n l out (i : Int) = K (bds f (kids.drop i) l).2 (out ++ (bds f (kids.drop i) l).1) ∧ (bds f (kids.drop i) l).2 = l.drop (cntV (sers (kids.drop i))) ∧ ∀ y ∈ (bds f (kids.drop i) l).1, y.length ≤ 1048576 := by
  intro m
  induction m with
  | zero =>
    intro i n l out hi hn ho hc hl
    obtain ⟨n, rfl⟩ : ∃ j, n = j + 1 := ⟨n - 1, by omega⟩
    rw [List.drop_eq_nil_of_le (by omega), m_pattern_node_build_L2, m_pattern_node_build_B2, if_neg (by simp; omega)]
    simp [bds, sers_nil, cntV]
  | succ m ih =>
    intro i n l out hi hn ho hc hl
    obtain ⟨n, rfl⟩ : ∃ j, n = j + 1 := ⟨n - 1, by omega⟩
    have h1 : i < kids.length := by omega
    rw [List.drop_eq_getElem_cons h1, sers_cons, cntV_app] at hc
    obtain ⟨e1, e2, e3⟩ := hs _ (List.getElem_mem h1) l (by omega) hl
    rw [List.drop_eq_getElem_cons h1, m_pattern_node_build_L2, m_pattern_node_build_B2, if_pos (by simp; omega), need_pos (by simp; omega)]
    simp only [gi_nat h1]
    rw [e1, bnd1_mk, need_pos (by simp; omega), i64_succ (by omega)]
    obtain ⟨g1, g2, g3⟩ := ih (i + 1) n (f kids[i] l).2 (out ++ [(f kids[i] l).1]) (by omega) (by omega) (by simp [ho]) (by rw [e2, List.length_drop]; omega) (fun y hy => hl y (by rw [e2] at hy; exact List.mem_of_mem_drop hy))
    rw [g1]
    refine ⟨by simp [bds], ?_, fun y hy => ?_⟩
    · rw [bds, g2, e2, sers_cons, cntV_app, List.drop_drop]
    · rw [bds] at hy
      rcases List.mem_cons.1 hy with rfl | hy
      · exact e3
      · exact g3 y hy
theorem gi_drop_len {l : List Vl} (h : 0 < l.length) (hl : ∀ y ∈ l, y.length ≤ 1048576) : (gi l 0).length ≤ 1048576 := hl _ (gi_mem (by omega) (by omega))
theorem fm_kids0 {op n : Int} {kids : List Nd} (h : fmB op n kids = true) (ho : op = 30 ∨ op = 31 ∨ op = 32 ∨ op = 33) : kids = [] := by
  unfold fmB at h
  rcases ho with rfl | rfl | rfl | rfl <;> simp at h
  · exact h.1
  · exact h.1
  · exact h
  · exact h.1
set_option maxRecDepth 10000 in
theorem pBuild : ∀ (k n : Nat) (t : Nd) (l : List Vl), k < n → OkT k t → (ser t).all nbC = true → (ser t).length ≤ 1000000 → cntV (ser t) ≤ l.length → (∀ y ∈ l, y.length ≤ 1048576) → BSpec t l (bd k t l) (m_pattern_node_build_S n t l) := by
  intro k
  induction k with
  | zero => intro n t _ _ h; exact absurd h not_ok0
  | succ k ih =>
    intro n t l hn hok hb hs hc hl
    obtain ⟨n, rfl⟩ : ∃ j, n = j + 1 := ⟨n - 1, by omega⟩
    cases hok with | @mk _ op a kids hf hk =>
    rw [ser_mk] at hb hs hc
    rw [List.length_cons] at hs
    rw [List.all_cons, Bool.and_eq_true] at hb
    obtain ⟨hb1, hb2⟩ := hb
    simp only [nbC, decide_eq_true_eq] at hb1
    have hkl := sers_len (fun x hx => (hk x hx).pr)
    have hFU := FU_ge
    have hun : unN (.mk op a kids) = some (op, a, kids) := rfl
    unfold BSpec
    rw [m_pattern_node_build_S, m_pattern_node_build_F, ser_mk, bd]
    simp only [hun, bnd1_mk, jn_eq]
    by_cases c1 : op = 30
    · subst c1
      obtain rfl := fm_kids0 hf (.inl rfl)
      have hc' : 1 ≤ l.length := by simpa [cntV, sers_nil] using hc
      rw [if_pos rfl, if_pos rfl, need_pos (by omega), need_pos (by omega)]
      exact ⟨rfl, by simp [cntV, sers_nil], gi_drop_len (by omega) hl⟩
    rw [if_neg c1, if_neg c1]
    by_cases c2 : op = 32
    · subst c2
      obtain rfl := fm_kids0 hf (.inr (.inr (.inl rfl)))
      rw [if_pos rfl, if_pos rfl, vInt, bnd1_mk]
      exact ⟨rfl, by simp [cntV, sers_nil], by rw [intW_len]; omega⟩
    rw [if_neg c2, if_neg c2]
    by_cases c3 : op = 33
    · subst c3
      obtain rfl := fm_kids0 hf (.inr (.inr (.inr rfl)))
      rw [if_pos rfl, if_pos rfl]
      refine ⟨?_, by simp [cntV, sers_nil], ?_⟩
      · unfold m_value_Bool boolW
        by_cases h : a = 1 <;> simp [h, bnd1_mk]
      · unfold boolW; split <;> simp
    rw [if_neg c3, if_neg c3]
    have hc2 : cntV ((op, a, (kids.length : Int)) :: sers kids) = cntV (sers kids) := by simp [cntV, c1]
    rw [hc2] at hc
    rw [hc2]
    have sub : ∀ x ∈ kids, (ser x).length ≤ 1000000 ∧ (ser x).all nbC = true := fun x hx => by
      obtain ⟨s, t, rfl⟩ := List.append_of_mem hx
      rw [sers_app, sers_cons] at hs hb2
      rw [List.all_append, List.all_append] at hb2
      simp only [Bool.and_eq_true] at hb2
      simp at hs
      exact ⟨by omega, hb2.2.1⟩
    have hloop := fun K => pBuild_loop (m_pattern_node_build_S n) (bd k) K op a kids (by omega) (fun x hx l' h1 h2 => ih n x l' (by omega) (hk x hx) (sub x hx).2 (sub x hx).1 h1 h2) kids.length 0 FU l [] (by omega) (by omega) rfl (by simpa using hc) hl
    simp only [Int.natCast_zero, List.drop_zero, List.nil_append] at hloop
    obtain ⟨_, g2, g3⟩ := hloop (fun _ _ => none)
    have gl := bds_len (bd k) kids l
    rw [(hloop _).1]
    have hbig : ∀ x ∈ (bds (bd k) kids l).1, x.length ≤ 1099511627776 := fun x hx => by have := g3 x hx; omega
    refine ⟨?_, g2, Nat.le_trans (finW_len op a (bds (bd k) kids l).1) (by omega)⟩
    unfold finW
    by_cases c4 : op = 34
    · rw [if_pos c4, if_pos c4, pTuple _ hbig, bnd1_mk]
    rw [if_neg c4, if_neg c4]
    by_cases c5 : op = 35
    · rw [if_pos c5, if_pos c5, pSeq _ hbig, bnd1_mk]
    rw [if_neg c5, if_neg c5]
    by_cases c6 : op = 37
    · rw [if_pos c6, if_pos c6, vSet _ (by omega) hbig, bnd1_mk]
    rw [if_neg c6, if_neg c6]
    by_cases c7 : op = 38
    · rw [if_pos c7, if_pos c7]
      by_cases h1 : a < 0
      · rw [if_pos h1, if_pos (show a < 0 ∨ 65536 ≤ a from .inl h1)]; rfl
      · rw [if_neg h1]
        by_cases h2 : 65536 ≤ a
        · rw [decide_eq_true h2, if_pos rfl, if_pos (show a < 0 ∨ 65536 ≤ a from .inr h2)]
        · rw [decide_eq_false h2, if_neg (by simp), if_neg (show ¬ (a < 0 ∨ 65536 ≤ a) by omega), pDot (by omega) (by omega) _ (by omega) hbig, bnd1_mk]
    rw [if_neg c7, if_neg c7]
    have c8 : op = 36 := by
      unfold fmB at hf
      have hn2 := hb1
      by_cases h : op = 36
      · exact h
      · simp [c1, c2, c3, c4, c5, c6, c7, h, hb1.1, hb1.2.1, hb1.2.2] at hf
    subst c8
    simp [fmB] at hf
    obtain ⟨f1, f2, _⟩ := hf
    rw [need_pos (by omega), vKind, bnd1_mk]
    by_cases h4 : kindW (gi (bds (bd k) kids l).1 a) = 4
    · rw [if_neg (fun h => h h4), if_pos h4, need_pos (by omega), vPartsW, bnd1_mk, i64_id (by omega), need_pos (by omega)]
      have q1 := (prtW_spec (gi (bds (bd k) kids l).1 a)).1
      have q2 := (prtW_spec (gi (bds (bd k) kids l).1 a)).2.1
      have e1 : Int.toNat (a + 1) = a.toNat + 1 := by omega
      rw [e1, pConcat _ (by simp) (by simp; omega), bnd1_mk]
      have e2 : [List.take a.toNat (bds (bd k) kids l).1, prtW (gi (bds (bd k) kids l).1 a), List.drop (a.toNat + 1) (bds (bd k) kids l).1].flatten = List.take a.toNat (bds (bd k) kids l).1 ++ prtW (gi (bds (bd k) kids l).1 a) ++ List.drop (a.toNat + 1) (bds (bd k) kids l).1 := by simp
      rw [e2, pSeq _ (fun x hx => by
        simp only [List.mem_append] at hx
        rcases hx with (hx | hx) | hx
        · exact hbig x (List.mem_of_mem_take hx)
        · exact (q1 x hx).len
        · exact hbig x (List.mem_of_mem_drop hx)), bnd1_mk]
    · rw [if_pos h4, if_neg h4]
/-- Build. -/
noncomputable def buildW (p : List Cd) (l : List Vl) : Vl × Bool := match parse p with
  | none => ([], false)
  | some t => if p.all nbC = true ∧ cntV p = l.length ∧ vldB (bd 64 t l).1 = true then ((bd 64 t l).1, true) else ([], false)
theorem pBuildW (p : List Cd) (l : List Vl) (hl : p.length ≤ 1048576) (hx : ∀ y ∈ l, y.length ≤ 1048576) : m_pattern_Build p l = some (buildW p l) := by
  have hFU := FU_ge
  unfold m_pattern_Build buildW m_pattern_node_all m_pattern_node_build
  simp only [jn_eq]
  rcases pWhole p hl with ⟨t, e1, e2⟩ | ⟨e1, t, e2⟩
  · obtain ⟨rfl, hok, h8⟩ := parse_some.1 e1
    rw [e2, bnd1_mk, e1]
    simp only [if_true]
    rw [pAll _ (fun t => nbC (hd t)) pBuild1 64 FU t (by omega) hok (by omega), bnd1_mk, allT_ser _ _ hok.pr]
    cases hb : (ser t).all nbC with
    | false => simp
    | true =>
      simp only [Bool.not_true, Bool.false_eq_true, if_false, true_and]
      rw [pVars _ (by omega), bnd1_mk]
      by_cases hc : cntV (ser t) = l.length
      · have hc' : (l.length : Int) = (cntV (ser t) : Int) := by omega
        simp only [hc', not_true_eq_false, decide_false, Bool.false_eq_true, if_false, hc, true_and]
        obtain ⟨g1, _, _⟩ := pBuild 64 FU t l (by omega) hok hb (by omega) (by omega) hx
        rw [g1, bnd1_mk, vValid, bnd1_mk]
        cases vldB (bd 64 t l).1 <;> simp
      · have hc' : ¬ (l.length : Int) = (cntV (ser t) : Int) := by omega
        simp only [hc', not_false_eq_true, decide_true, if_true, hc, false_and, if_false]
  · rw [e2, bnd1_mk, e1]
    simp
end Go.Proofs.Ytpfdeahcjlfijaa
/- Patterns of variables around a rest; the fixed example of layer 12. -/
namespace Go.Proofs.Ytpfdeahcjlfijaa
attribute [local irreducible] FU

def nodeW (op n : Int) (ls : List (List Cd)) : List Cd := (op, n, (ls.length : Int)) :: ls.flatten
theorem sers_flat : ∀ l : List Nd, sers l = (l.map ser).flatten
  | [] => by rw [sers_nil]; rfl
  | k :: l => by rw [sers_cons, sers_flat l]; rfl
theorem ser_node (op n : Int) (kids : List Nd) : ser (.mk op n kids) = nodeW op n (kids.map ser) := by rw [ser_mk, sers_flat, nodeW, List.length_map]
theorem lNode (op n : Int) (ls : List (List Cd)) (hl : ls.length ≤ 1000000000) (hs : ls.flatten.length ≤ 1000000000) : m_law12_node op n ls = some (nodeW op n ls) := by
  have hFU := FU_ge
  unfold m_law12_node
  rw [jn_eq]
  have loop : ∀ (m i q : Nat) (s : List Cd), i + m = ls.length → m < q → s ++ (ls.drop i).flatten = nodeW op n ls → m_law12_node_L2 ls (fun x => some x) q s (i : Int) = some (nodeW op n ls) := by
    intro m
    induction m with
    | zero =>
      intro i q s hi hq hs'
      obtain ⟨q, rfl⟩ : ∃ j, q = j + 1 := ⟨q - 1, by omega⟩
      rw [List.drop_eq_nil_of_le (by omega), List.flatten_nil, List.append_nil] at hs'
      rw [m_law12_node_L2, m_law12_node_B2, if_neg (by omega), hs']
    | succ m ih =>
      intro i q s hi hq hs'
      obtain ⟨q, rfl⟩ : ∃ j, q = j + 1 := ⟨q - 1, by omega⟩
      have hil : i < ls.length := by omega
      rw [List.drop_eq_getElem_cons hil, List.flatten_cons, ← List.append_assoc] at hs'
      have hsl := congrArg List.length hs'
      simp only [List.length_append, nodeW, List.length_cons] at hsl
      rw [m_law12_node_L2, m_law12_node_B2, if_pos (by omega), need_pos (by omega), gi_nat hil, need_pos (by omega), i64_succ (by omega)]
      exact ih (i + 1) q _ (by omega) (by omega) hs'
  have := loop ls.length 0 FU [(op, n, (ls.length : Int))] (by omega) (by omega) rfl
  rw [Int.natCast_zero] at this
  exact this
abbrev vr : Nd := .mk 30 0 []
theorem ser_vr : ser vr = [(30, 0, 0)] := by rw [ser_mk, sers_nil]; rfl
theorem vr_ok (k : Nat) : OkT (k + 1) vr := .mk (by decide) (fun x hx => by cases hx)
/-- Variables, a of them in front of the rest, m in all. -/
def catT (a m : Nat) : Nd := .mk 36 a (List.replicate m vr)
theorem cat_ok {a m : Nat} (h : a < m) (k : Nat) : OkT (k + 2) (catT a m) := by
  refine .mk ?_ (fun x hx => by rw [(List.mem_replicate.1 hx).2]; exact vr_ok k)
  have hg : gi (List.replicate m vr) (a : Int) = vr := by rw [gi_nat (by simpa using h)]; simp
  simp [fmB, hg, op0]
  exact h
theorem ser_cat (a m : Nat) : ser (catT a m) = nodeW 36 a (List.replicate m [(30, 0, 0)]) := by
  rw [catT, ser_node, List.map_replicate, ser_vr]
theorem flat_one (m : Nat) (c : Cd) : (List.replicate m [c]).flatten = List.replicate m c := by
  induction m with
  | zero => rfl
  | succ m ih => rw [List.replicate_succ, List.flatten_cons, ih, List.replicate_succ]; rfl
theorem ser_cat_len (a m : Nat) : (ser (catT a m)).length = m + 1 := by rw [ser_cat, nodeW, flat_one]; simp
theorem parse_cat {a m : Nat} (h : a < m) (hm : m ≤ 8000) : parse (ser (catT a m)) = some (catT a m) :=
  parse_some.2 ⟨rfl, cat_ok h 62, by rw [ser_cat_len]; omega⟩
theorem mts_vars (k : Nat) : ∀ (m : Nat) (ps : List Vl), ps.length = m → mts (mt (k + 1)) (List.replicate m vr) ps = some ps
  | 0, ps, h => by rw [List.length_eq_zero_iff.1 h]; simp only [List.replicate_zero, mts]
  | m + 1, [], h => by simp at h
  | m + 1, y :: ps, h => by
    have e : mt (k + 1) vr y = some [y] := by rw [mt, if_pos rfl]
    rw [List.replicate_succ]
    simp only [mts, e, mts_vars k m ps (by simpa using h)]
    rfl
/-- What is matched. -/
theorem mt_cat {a m : Nat} (h : a < m) {v : Vl} (hk : kindW v = 4) (hl : m - 1 ≤ (prtW v).length) :
    mt 64 (catT a m) v = some ((prtW v).take a ++ cmpd 4 (((prtW v).drop a).take ((prtW v).length - (m - 1))) :: (prtW v).drop ((prtW v).length - (m - 1 - a))) := by
  rw [catT, mt, if_neg (by decide), if_neg (by decide), if_neg (by decide), if_neg (by decide), subP, if_neg (by decide), if_neg (by decide), if_neg (by decide), if_neg (by decide), if_pos rfl, List.length_replicate, if_pos ⟨hk, hl⟩]
  simp only [Int.toNat_natCast]
  exact mts_vars 62 m _ (by simp; omega)
theorem mt_cat_no {a m : Nat} {v : Vl} (hl : ¬ (kindW v = 4 ∧ m - 1 ≤ (prtW v).length)) : mt 64 (catT a m) v = none := by
  rw [catT, mt, if_neg (by decide), if_neg (by decide), if_neg (by decide), if_neg (by decide), subP, if_neg (by decide), if_neg (by decide), if_neg (by decide), if_neg (by decide), if_pos rfl, List.length_replicate, if_neg hl]
/-- Sequences of small values. -/
theorem seq_ok {l : List Vl} {k : Nat} (hk : k ≤ 31) (hv : ∀ x ∈ l, IsV k x) (hn : l.length ≤ 65535) (hl : l.flatten.length ≤ 131069) : Vd (cmpd 4 l) ∧ kindW (cmpd 4 l) = 4 ∧ prtW (cmpd 4 l) = l ∧ cmpd 4 l = raw 4 l := by
  have hvd : ∀ x ∈ l, Vd x := fun x hx => ⟨(hv x hx).le (by omega), by
    obtain ⟨s, t, rfl⟩ := List.append_of_mem hx
    simp at hl; omega⟩
  have hc : Vd (raw 4 l) := ⟨(IsV.comp k 4 _ _ l (by decide) (raw_count hn) hv (by simp [formedB])).le (by omega), by rw [raw_len]; omega⟩
  have e := cmpd_yes (c := 4) ⟨hn, hvd, hc⟩
  refine ⟨by rw [e]; exact hc, ?_, ?_, e⟩
  · rw [e]; unfold kindW; rw [if_pos (vldB_iff.2 hc)]; rfl
  · rw [e]; unfold prtW; rw [if_pos (vldB_iff.2 hc), prt_raw (by decide) hn hvd]
theorem seq_ints {l : List Int} (hn : l.length ≤ 1000) : Vd (cmpd 4 (l.map intW)) ∧ kindW (cmpd 4 (l.map intW)) = 4 ∧ prtW (cmpd 4 (l.map intW)) = l.map intW ∧ cmpd 4 (l.map intW) = raw 4 (l.map intW) := by
  refine seq_ok (k := 1) (by omega) (fun x hx => ?_) (by simp; omega) ?_
  · obtain ⟨n, _, rfl⟩ := List.mem_map.1 hx; exact intW_IsV n 0
  · have := flat_le (l := l.map intW) (c := 9) (fun x hx => by obtain ⟨n, _, rfl⟩ := List.mem_map.1 hx; rw [intW_len]; omega)
    rw [List.length_map] at this; omega
theorem sMake (l : List Vl) (hl : l.length ≤ 1099511627776) : m_ref9_Make 4 l = some (cmpd 4 l) := by
  have := rMake 4 (by decide) l hl
  rwa [show ((4 : UInt8).toNat : Int) = 4 from rfl] at this
theorem bds_vars (k : Nat) : ∀ (m : Nat) (l : List Vl), m ≤ l.length → bds (bd (k + 1)) (List.replicate m vr) l = (l.take m, l.drop m)
  | 0, l, _ => by simp [bds]
  | m + 1, [], h => by simp at h
  | m + 1, y :: l, h => by
    rw [List.replicate_succ, bds]
    have e : bd (k + 1) vr (y :: l) = (y, l) := by rw [bd, if_pos rfl]; rfl
    rw [e, bds_vars k m l (by simpa using h)]; rfl
theorem awake12 : m_law12_awake = some true := by
  unfold m_law12_awake
  have e1 : m_law12_node 30 0 ([] : List (List Cd)) = some [(30, 0, 0)] := lNode 30 0 [] (by simp) (by simp)
  have e2 : m_law12_node 36 1 [[(30, 0, 0)], [(30, 0, 0)]] = some (ser (catT 1 2)) := by rw [ser_cat]; exact lNode 36 1 _ (by simp) (by simp)
  obtain ⟨s1, s2, s3, _⟩ := seq_ints (l := [1, 2]) (by simp)
  obtain ⟨t1, t2, t3, _⟩ := seq_ints (l := [2]) (by simp)
  simp only [List.map_cons, List.map_nil] at s1 s2 s3 t1 t2 t3
  have hp := parse_cat (a := 1) (m := 2) (by omega) (by omega)
  have hlen := ser_cat_len 1 2
  have hM : m_pattern_Match (ser (catT 1 2)) (cmpd 4 [intW 1, intW 2]) = some ([intW 1, cmpd 4 [intW 2]], true) := by
    rw [pMatchW _ _ (by omega), matchW, hp]
    simp only [show vldB (cmpd 4 [intW 1, intW 2]) = true from vldB_iff.2 s1, if_true]
    rw [mt_cat (a := 1) (m := 2) (by omega) s2 (by rw [show prtW (cmpd 4 [intW 1, intW 2]) = [intW 1, intW 2] from s3]; simp)]
    rw [show prtW (cmpd 4 [intW 1, intW 2]) = [intW 1, intW 2] from s3]; rfl
  have hV : cntV (ser (catT 1 2)) = 2 := by rw [ser_cat, nodeW, flat_one]; rfl
  have hB : m_pattern_Build (ser (catT 1 2)) [intW 1, cmpd 4 [intW 2]] = some (cmpd 4 [intW 1, intW 2], true) := by
    rw [pBuildW _ _ (by omega) (fun y hy => by
      simp at hy
      rcases hy with rfl | rfl
      · rw [intW_len]; omega
      · exact Nat.le_trans (cmpd_len _ _) (by omega)), buildW, hp]
    have hb : bd 64 (catT 1 2) [intW 1, cmpd 4 [intW 2]] = (cmpd 4 [intW 1, intW 2], []) := by
      rw [catT, bd, if_neg (by decide), if_neg (by decide), if_neg (by decide), bds_vars 62 2 _ (by simp)]
      simp only [List.take, List.drop, finW]
      rw [if_neg (by decide), if_neg (by decide), if_neg (by decide), if_neg (by decide), show gi [intW 1, cmpd 4 [intW 2]] ((1 : Nat) : Int) = cmpd 4 [intW 2] from rfl, if_pos t2, show prtW (cmpd 4 [intW 2]) = [intW 2] from t3]; rfl
    have hn : (ser (catT 1 2)).all nbC = true := by rw [ser_cat, nodeW, flat_one]; rfl
    simp only [hb]
    rw [if_pos ⟨hn, by rw [hV]; rfl, vldB_iff.2 s1⟩]
  have hI : m_pattern_Irrefutable (ser (catT 1 2)) = some false := by
    rw [pIrrW _ (by omega)]
    unfold irrW
    rw [show (ser (catT 1 2)).all irrC = false from by rw [ser_cat, nodeW, flat_one]; rfl, Bool.and_false]
  rw [e1, bnd1_mk, bnd1_mk, e2, bnd1_mk, rInt, bnd1_mk, rInt, bnd1_mk, sMake _ (by simp), bnd1_mk, hM, bnd1_mk, hB, bnd1_mk, jn_eq]
  simp only [if_true]
  rw [if_pos (by rfl), need_pos (by simp), bnd1_mk, if_pos (by rfl), pVars _ (by omega), bnd1_mk, hV, if_pos (by rfl), hI, bnd1_mk]; rfl
end Go.Proofs.Ytpfdeahcjlfijaa
