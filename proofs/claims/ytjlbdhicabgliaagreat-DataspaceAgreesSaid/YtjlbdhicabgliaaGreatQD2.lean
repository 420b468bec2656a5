/- Valid values: what the reference calls valid; both agree. -/
import Derived.Test.YtjlbdhicabgliaaGreatQD1
import Derived.Test.YtjlbdhicabgliaaGreatQD0
namespace Go.Proofs.YtjlbdhicabgliaaGreat
attribute [local irreducible] FU

theorem rAsc1 (w : List UInt8 → Int → Bool → Option (Int × List (List UInt8) × Int)) (o : List UInt8 → List UInt8 → Option Int) (ps : List (List UInt8)) (hl : ps.length ≤ 1000000) (hc : ∀ p ∈ ps, ∀ q ∈ ps, o p q = some (cmpW p q)) : m_ref9_ascending w o ps 1 = some (ascB ps) := by
 have hFU := FU_ge
 unfold m_ref9_ascending
 rw [jn_eq]
 have loop : ∀ (m i n : Nat), i + m = ps.length → 1 ≤ i → m < n → m_ref9_ascending_L2 o ps 1 (fun _ => some true) n i = some (ascB (ps.drop (i - 1))) := by
  intro m
  induction m with
  | zero =>
   intro i n hi h1 hn
   obtain ⟨n, rfl⟩ : ∃ k, n = k + 1 := ⟨n - 1, by omega⟩
   rw [m_ref9_ascending_L2, m_ref9_ascending_B2, if_neg (by omega), List.drop_eq_getElem_cons (show i - 1 < ps.length by omega), List.drop_eq_nil_of_le (by omega)]
   rfl
  | succ m ih =>
   intro i n hi h1 hn
   obtain ⟨n, rfl⟩ : ∃ k, n = k + 1 := ⟨n - 1, by omega⟩
   have hip : i < ps.length := by omega
   have e : ps.drop (i - 1) = ps[i - 1] :: ps[i] :: ps.drop (i + 1) := by
    rw [List.drop_eq_getElem_cons (show i - 1 < ps.length by omega), show i - 1 + 1 = i by omega, List.drop_eq_getElem_cons hip]
   have e2 : ps.drop (i + 1 - 1) = ps[i] :: ps.drop (i + 1) := by rw [show i + 1 - 1 = i by omega, List.drop_eq_getElem_cons hip]
   have e3 : gi ps ((i : Int) - 1) = ps[i - 1] := by rw [show (i : Int) - 1 = ((i - 1 : Nat) : Int) by omega, gi_nat (by omega)]
   rw [m_ref9_ascending_L2, m_ref9_ascending_B2, if_pos (by omega), i64_sub1 (by omega), zak (by omega), zak (by omega), e3, gi_nat hip, hc _ (List.getElem_mem _) _ (List.getElem_mem _), zai, i64_succ (by omega), e, ascB]
   by_cases h : cmpW ps[i - 1] ps[i] < 0
   ·rw [if_neg (by omega), ih (i + 1) n (by omega) (by omega) (by omega), e2]; simp [h]
   ·rw [if_pos (by omega)]; simp [h]
 match hps : ps with
 | [] =>
  obtain ⟨n, hn⟩ := FU_k 1 (by omega)
  rw [hn, m_ref9_ascending_L2, m_ref9_ascending_B2, if_neg (by simp)]; rfl
 | p :: t =>
  have := loop t.length 1 FU (by simp; omega) (by omega) (by simp at hl; omega)
  rw [show ((1 : Nat) : Int) = 1 from rfl] at this
  rw [this]; rfl
theorem evens_drop2 {α : Type} : ∀ (l : List α), 2 ≤ l.length → ∃ x, l[0]? = some x ∧ evens l = x :: evens (l.drop 2)
 | x :: y :: t, _ => ⟨x, rfl, rfl⟩
theorem rAsc2 (w : List UInt8 → Int → Bool → Option (Int × List (List UInt8) × Int)) (o : List UInt8 → List UInt8 → Option Int) (ps : List (List UInt8)) (hl : ps.length ≤ 1000000) (h2 : ps.length % 2 = 0) (hc : ∀ p ∈ ps, ∀ q ∈ ps, o p q = some (cmpW p q)) : m_ref9_ascending w o ps 2 = some (ascB (evens ps)) := by
 have hFU := FU_ge
 unfold m_ref9_ascending
 rw [jn_eq]
 have loop : ∀ (m i n : Nat), i + 2 * m = ps.length → 2 ≤ i → i % 2 = 0 → m < n → m_ref9_ascending_L2 o ps 2 (fun _ => some true) n i = some (ascB (evens (ps.drop (i - 2)))) := by
  intro m
  induction m with
  | zero =>
   intro i n hi h1 hi2 hn
   obtain ⟨n, rfl⟩ : ∃ k, n = k + 1 := ⟨n - 1, by omega⟩
   rw [m_ref9_ascending_L2, m_ref9_ascending_B2, if_neg (by omega)]
   obtain ⟨x, _, hx⟩ := evens_drop2 (ps.drop (i - 2)) (by simp; omega)
   rw [hx, List.drop_drop, List.drop_eq_nil_of_le (by omega)]
   rfl
  | succ m ih =>
   intro i n hi h1 hi2 hn
   obtain ⟨n, rfl⟩ : ∃ k, n = k + 1 := ⟨n - 1, by omega⟩
   have hip : i < ps.length := by omega
   obtain ⟨x, hx0, hx⟩ := evens_drop2 (ps.drop (i - 2)) (by simp; omega)
   obtain ⟨y, hy0, hy⟩ := evens_drop2 (ps.drop i) (by simp; omega)
   rw [List.getElem?_drop, List.getElem?_eq_getElem (by omega)] at hx0 hy0
   have ex : x = ps[i - 2] := by simpa using (Option.some.inj hx0).symm
   have ey : y = ps[i] := by simpa using (Option.some.inj hy0).symm
   rw [List.drop_drop, show i - 2 + 2 = i by omega] at hx
   have e3 : gi ps ((i : Int) - 2) = ps[i - 2] := by rw [show (i : Int) - 2 = ((i - 2 : Nat) : Int) by omega, gi_nat (by omega)]
   have e4 : i64 ((i : Int) - 2) = (i : Int) - 2 := i64_id (by omega)
   have e5 : i64 ((i : Int) + 2) = ((i + 2 : Nat) : Int) := by rw [i64_id (by omega)]; omega
   rw [m_ref9_ascending_L2, m_ref9_ascending_B2, if_pos (by omega), e4, zak (by omega), zak (by omega), e3, gi_nat hip, hc _ (List.getElem_mem _) _ (List.getElem_mem _), zai, e5, hx, hy, ascB, ex, ey]
   by_cases h : cmpW ps[i - 2] ps[i] < 0
   ·rw [if_neg (by omega), ih (i + 2) n (by omega) (by omega) (by omega) (by omega), show i + 2 - 2 = i by omega, hy, ey]; simp [h]
   ·rw [if_pos (by omega)]; simp [h]
 by_cases h0 : ps.length = 0
 ·have : ps = [] := List.length_eq_zero_iff.1 h0
  subst this
  obtain ⟨n, hn⟩ := FU_k 1 (by omega)
  rw [hn, m_ref9_ascending_L2, m_ref9_ascending_B2, if_neg (by simp)]
  simp [evens, ascB]
 ·have := loop ((ps.length - 2) / 2) 2 FU (by omega) (by omega) (by omega) (by omega)
  rw [show ((2 : Nat) : Int) = 2 from rfl] at this
  rw [this]; rfl
theorem rSmall {k : Nat} {v : List UInt8} (h : Sh k v) (lo hi : Int) : m_ref9_small v lo hi = some (betB v lo hi) := by
 have hl := h.len
 unfold m_ref9_small betB
 simp only [jn_eq, toNat1]
 rw [need_len (by omega)]
 by_cases h1 : gi v 0 = 1
 ·obtain ⟨l1, _⟩ := h.kind1 h1
  rw [if_pos h1, zak (by omega), show Int.toNat 1 = 1 from rfl, rNumber (v.drop 1) (by simp [l1]), zai, zak (by omega), zai, List.take_of_length_le (by simp [l1])]
  have : i64 (beNat (v.drop 1) : Int) = numV v := rfl
  rw [this]
  by_cases h2 : lo ≤ numV v <;> simp [h1, h2]
 ·rw [if_neg h1]; simp [h1]
theorem rParted {k : Nat} (w : List UInt8 → Int → Bool → Option (Int × List (List UInt8) × Int)) (o : List UInt8 → List UInt8 → Option Int) (c : UInt8) (ps : List (List UInt8)) (hp : ∀ p ∈ ps, Sh k p) (hl : ps.length ≤ 100000) (hc : ∀ p ∈ ps, ∀ q ∈ ps, o p q = some (cmpW p q)) : m_ref9_parted w o (c.toNat : Int) ps = some (formedB c ps) := by
 have h0 : 1 ≤ ps.length → gi ps 0 ∈ ps := fun h => by
  rw [show (0 : Int) = ((0 : Nat) : Int) from rfl, gi_nat (by omega)]; exact List.getElem_mem _
 unfold m_ref9_parted formedB
 simp only [jn_eq, toNat3, toNat5, toNat6, toNat7, toNat8, toNat9]
 by_cases h3 : c = 3
 ·simp only [h3, if_true]
  by_cases h : (2 : Int) ≤ (ps.length : Int)
  ·rw [if_pos h]
   by_cases h8 : (ps.length : Int) ≤ 8
   ·simp [show 2 ≤ ps.length by omega, show ps.length ≤ 8 by omega, h8]
   ·simp [show ¬ ps.length ≤ 8 by omega, h8]
  ·rw [if_neg h]; simp; omega
 ·simp only [h3, if_false]
  by_cases h5 : c = 5
  ·simp only [h5, if_true, rAsc1 w o ps (by omega) hc, zai]
  ·simp only [h5, if_false]
   by_cases h6 : c = 6
   ·simp only [h6, if_true, tmod2]
    by_cases he : ps.length % 2 = 0
    ·rw [if_pos he, rAsc2 w o ps (by omega) he hc, zai]; simp [he]
    ·rw [if_neg he]; simp [he]
   ·simp only [h6, if_false]
    by_cases h7 : c = 7
    ·simp only [h7, if_true]
     by_cases h1 : (1 : Int) ≤ (ps.length : Int)
     ·rw [if_pos h1]
      by_cases h9 : (ps.length : Int) ≤ 9
      ·have hm := (hp _ (h0 (by omega))).len
       rw [if_pos h9, zak (by omega), zak (by omega)]
       simp only [toNat10, show 1 ≤ ps.length by omega, show ps.length ≤ 9 by omega, decide_true, Bool.true_and]
       rfl
      ·rw [if_neg h9]; simp; omega
     ·rw [if_neg h1]; simp; omega
    ·simp only [h7, if_false]
     by_cases h8 : c = 8
     ·simp only [h8, if_true]
      by_cases h1 : (1 : Int) ≤ (ps.length : Int)
      ·rw [if_pos h1]
       by_cases h9 : (ps.length : Int) ≤ 33
       ·rw [if_pos h9, zak (by omega), rSmall (hp _ (h0 (by omega))), zai]
        simp [show 1 ≤ ps.length by omega, show ps.length ≤ 33 by omega]
       ·rw [if_neg h9]; simp; omega
      ·rw [if_neg h1]; simp; omega
     ·simp only [h8, if_false]
      by_cases h9 : c = 9
      ·simp only [h9, if_true]
       by_cases h1 : (1 : Int) ≤ (ps.length : Int)
       ·rw [if_pos h1, zak (by omega), rSmall (hp _ (h0 (by omega))), zai]
        simp [show 1 ≤ ps.length by omega]
       ·rw [if_neg h1]; simp; omega
      ·simp only [h9, if_false]
def AtR (k : Nat) (s : List UInt8) (o : Option (Int × List (List UInt8) × Int)) : Prop := (∃ v r d, s = v ++ r ∧ IsV k v ∧ o = some ((v.length : Int), prt v, d)) ∨ ((∀ v r, s = v ++ r → ¬ IsV k v) ∧ o = some (0, [], 0))
theorem rWalk : ∀ (k : Nat), k ≤ 32 → ∀ (n : Nat), k + 40 ≤ n → ∀ (s : List UInt8), s.length ≤ 100000000 → AtR k s ((m_ref9_walk_S n).1 s (k : Int) true)
 | 0, _, n, hn, s, hs => by
  obtain ⟨n, rfl⟩ : ∃ q, n = q + 1 := ⟨n - 1, by omega⟩
  refine .inr ⟨fun v r _ hv => by have := hv.sh.pos; omega, ?_⟩
  rw [m_ref9_walk_S]
  show m_ref9_walk_F (m_ref9_walk_S n).1 (m_ref9_walk_S n).2 s ((0 : Nat) : Int) true = _
  rw [m_ref9_walk_F, jn_eq]
  by_cases h : (s.length : Int) < 2
  ·rw [if_pos h]; rfl
  ·rw [if_neg h]; rfl
 | k + 1, hk, n, hn, s, hs => by
  have hFU := FU_ge
  obtain ⟨n, rfl⟩ : ∃ q, n = q + 1 := ⟨n - 1, by omega⟩
  rw [m_ref9_walk_S]
  show AtR (k + 1) s (m_ref9_walk_F (m_ref9_walk_S n).1 (m_ref9_walk_S n).2 s ((k + 1 : Nat) : Int) true)
  rw [m_ref9_walk_F]
  simp only [jn_eq, decide_eq_true_eq]
  by_cases h0 : (s.length : Int) < 2
  ·rw [if_pos h0]
   exact .inr ⟨noV_small (by omega), rfl⟩
  rw [if_neg h0, if_neg (by omega), need_len (by omega)]
  obtain ⟨c, b1, t, rfl⟩ : ∃ c b t, s = c :: b :: t := by
   cases s with
   | nil => simp at h0
   | cons c t => cases t with
    | nil => simp at h0
    | cons b t => exact ⟨c, b, t, rfl⟩
  simp only [toNat1, toNat2, toNat10]
  have g0 : gi (c :: b1 :: t) 0 = c := rfl
  have g1 : gi (c :: b1 :: t) 1 = b1 := rfl
  have hlen : (c :: b1 :: t).length = t.length + 2 := rfl
  rw [hlen] at hs
  have kinds : ∀ v r, c :: b1 :: t = v ++ r → IsV (k + 1) v → (c = 1 ∧ 7 ≤ t.length) ∨ (c = 2 ∧ b1.toNat ≤ 1) ∨ (c = 10 ∧ 1 ≤ t.length) ∨
    (∃ l u ps, (3 ≤ c.toNat ∧ c.toNat ≤ 9) ∧ t = l :: u ∧ Row k (b1.toNat * 256 + l.toNat) u ps r ∧ formedB c ps = true) := by
   intro v r e hv
   cases hv with
   | int k b hb =>
    simp only [List.cons_append, List.cons.injEq] at e
    refine .inl ⟨e.1, ?_⟩
    have := congrArg List.length e.2
    simp at this; omega
   | bool k b hb =>
    simp only [List.cons_append, List.nil_append, List.cons.injEq] at e
    exact .inr (.inl ⟨e.1, by rw [e.2.1]; exact hb⟩)
   | name k h l =>
    simp only [List.cons_append, List.nil_append, List.cons.injEq] at e
    refine .inr (.inr (.inl ⟨e.1, ?_⟩))
    rw [e.2.2]; simp
   | comp k c' h l ps hc hn hp hf =>
    simp only [List.cons_append, List.cons.injEq] at e
    obtain ⟨rfl, rfl, e⟩ := e
    exact .inr (.inr (.inr ⟨l, ps.flatten ++ r, ps, hc, e, ⟨hn, hp, rfl⟩, hf⟩))
  by_cases h1 : c = 1
  ·subst h1
   rw [if_pos g0]
   by_cases hl : (((1 : UInt8) :: b1 :: t).length : Int) < 9
   ·rw [if_pos hl]
    refine .inr ⟨fun v r e hv => ?_, rfl⟩
    rcases kinds v r e hv with ⟨_, h⟩ | ⟨h, _⟩ | ⟨h, _⟩ | ⟨_, _, _, h, _⟩
    ·simp at hl; omega
    ·simp at h
    ·simp at h
    ·simp at h
   ·rw [if_neg hl]
    refine .inl ⟨1 :: b1 :: t.take 7, t.drop 7, 1, by simp, .int k (b1 :: t.take 7) (by simp at hl ⊢; omega), ?_⟩
    simp at hl
    simp [prt, gi_0]; omega
  ·rw [if_neg (by rw [g0]; exact h1)]
   by_cases h2 : c = 2
   ·subst h2
    rw [if_pos g0, zak (by omega)]
    by_cases hb : 1 < gi ((2 : UInt8) :: b1 :: t) 1
    ·rw [if_pos hb]
     refine .inr ⟨fun v r e hv => ?_, rfl⟩
     rw [g1, UInt8.lt_iff_toNat_lt] at hb
     rcases kinds v r e hv with ⟨h, _⟩ | ⟨_, h⟩ | ⟨h, _⟩ | ⟨_, _, _, h, _⟩
     ·simp at h
     ·simp at hb; omega
     ·simp at h
     ·simp at h
    ·rw [if_neg hb]
     rw [g1, UInt8.lt_iff_toNat_lt] at hb
     exact .inl ⟨[2, b1], t, 1, rfl, .bool k b1 (by simp at hb; omega), by simp [prt, gi_0]⟩
   ·rw [if_neg (by rw [g0]; exact h2)]
    have noK : ¬ c = 10 → ¬ (3 ≤ c.toNat ∧ c.toNat ≤ 9) → ∀ v r, c :: b1 :: t = v ++ r → ¬ IsV (k + 1) v := fun h10 hc v r e hv => by
     rcases kinds v r e hv with ⟨h, _⟩ | ⟨h, _⟩ | ⟨h, _⟩ | ⟨_, _, _, h, _⟩
     ·exact h1 h
     ·exact h2 h
     ·exact h10 h
     ·exact hc h
    by_cases hl : ((c :: b1 :: t).length : Int) < 3
    ·rw [if_pos hl, if_pos trivial]
     refine .inr ⟨fun v r e hv => ?_, rfl⟩
     rw [hlen] at hl
     rcases kinds v r e hv with ⟨h, _⟩ | ⟨h, _⟩ | ⟨_, h⟩ | ⟨_, _, _, _, h, _⟩
     ·exact h1 h
     ·exact h2 h
     ·omega
     ·rw [h] at hl; simp at hl; omega
    ·rw [if_neg hl]
     obtain ⟨l, u, rfl⟩ : ∃ l u, t = l :: u := by cases t with | nil => simp at hl | cons l u => exact ⟨l, u, rfl⟩
     by_cases hc3 : (UInt8.toNat (gi (c :: b1 :: l :: u) 0) : Int) < 3
     ·rw [if_pos hc3, if_pos trivial]
      rw [g0] at hc3
      exact .inr ⟨noK (fun h => by rw [h] at hc3; simp at hc3) (by omega), rfl⟩
     ·rw [if_neg hc3]
      rw [g0] at hc3
      by_cases hc10 : (10 : Int) < (UInt8.toNat (gi (c :: b1 :: l :: u) 0) : Int)
      ·rw [if_pos hc10]
       rw [g0] at hc10
       exact .inr ⟨noK (fun h => by rw [h] at hc10; simp at hc10) (by omega), rfl⟩
      ·rw [if_neg hc10]
       rw [g0] at hc10
       by_cases h10 : c = 10
       ·subst h10
        rw [if_pos g0]
        exact .inl ⟨[10, b1, l], u, 1, rfl, .name k b1 l, by simp [prt, gi_0]⟩
       ·rw [if_neg (by rw [g0]; exact h10)]
        have hc : 3 ≤ c.toNat ∧ c.toNat ≤ 9 := by
         have : c.toNat ≠ 10 := fun h => h10 (u8_inj (by rw [h]; rfl))
         omega
        have hlen3 : (c :: b1 :: l :: u).length = u.length + 3 := rfl
        have g2 : gi (c :: b1 :: l :: u) 2 = l := rfl
        rw [hlen3, zak (by omega), zak (by omega)]
        have kc : ∀ v r, c :: b1 :: l :: u = v ++ r → IsV (k + 1) v → ∃ ps, Row k (b1.toNat * 256 + l.toNat) u ps r ∧ formedB c ps = true := by
         intro v r e hv
         rcases kinds v r e hv with ⟨h, _⟩ | ⟨h, _⟩ | ⟨h, _⟩ | ⟨l', u', ps, _, h, h'⟩
         ·exact absurd h h1
         ·exact absurd h h2
         ·exact absurd h h10
         ·simp only [List.cons.injEq] at h
          obtain ⟨rfl, rfl⟩ := h
          exact ⟨ps, h'⟩
        have hx : UInt8.toNat b1 < 256 := UInt8.toNat_lt b1
        have hy : UInt8.toNat l < 256 := UInt8.toNat_lt l
        have ek : i64 (((k + 1 : Nat) : Int) - 1) = (k : Int) := by rw [i64_id (by omega)]; omega
        have hsl : u.length + 3 ≤ 100000000 := by simpa using hs
        have loop : ∀ (K : Int → Int → List (List UInt8) → Option (Int × List (List UInt8) × Int)) (m i q : Nat) (x12 : Int) (ps' : List (List UInt8)) (u' : List UInt8), i + m = b1.toNat * 256 + l.toNat → m < q → ps'.length = i → (∀ p ∈ ps', IsV k p) → u = ps'.flatten ++ u' →
          (∃ qs r d, Row k m u' qs r ∧ m_ref9_walk_L2 (m_ref9_walk_S n).1 (c :: b1 :: l :: u) ((k + 1 : Nat) : Int) true K q ((3 + ps'.flatten.length : Nat) : Int) x12 ps' i = K ((3 + (ps' ++ qs).flatten.length : Nat) : Int) d (ps' ++ qs)) ∨
          ((∀ qs r, ¬ Row k m u' qs r) ∧ m_ref9_walk_L2 (m_ref9_walk_S n).1 (c :: b1 :: l :: u) ((k + 1 : Nat) : Int) true K q ((3 + ps'.flatten.length : Nat) : Int) x12 ps' i = some (0, [], 0)) := by
         intro K m
         induction m with
         | zero =>
          intro i q x12 ps' u' hi hq hl' hp' hu
          obtain ⟨q, rfl⟩ : ∃ k, q = k + 1 := ⟨q - 1, by omega⟩
          refine .inl ⟨[], u', x12, ⟨rfl, by simp, by simp⟩, ?_⟩
          rw [m_ref9_walk_L2, m_ref9_walk_B2, g1, g2, i64_step, if_neg (by omega), List.append_nil]
         | succ m ih =>
          intro i q x12 ps' u' hi hq hl' hp' hu
          obtain ⟨q, rfl⟩ : ∃ k, q = k + 1 := ⟨q - 1, by omega⟩
          have hul : u.length = ps'.flatten.length + u'.length := by rw [hu]; simp
          have hdrop : List.drop (3 + ps'.flatten.length) (c :: b1 :: l :: u) = u' := by
           rw [show 3 + ps'.flatten.length = ps'.flatten.length + 3 by omega]
           simp only [List.drop_succ_cons]
           rw [hu, List.drop_left]
          rw [m_ref9_walk_L2, m_ref9_walk_B2, g1, g2, i64_step, if_pos (by omega), hlen3, zak (by omega), Int.toNat_natCast, hdrop, ek]
          rcases rWalk k (by omega) n (by omega) u' (by omega) with ⟨v, w, d, hv1, hv2, hv3⟩ | ⟨hno, h0'⟩
          ·have hvl := hv2.sh.len
           have hw : u'.length = v.length + w.length := by rw [hv1]; simp
           have e1 : i64 (((3 + ps'.flatten.length : Nat) : Int) + (v.length : Int)) = ((3 + (ps' ++ [v]).flatten.length : Nat) : Int) := by rw [i64_id (by omega)]; simp; omega
           have e2 : 3 + (ps' ++ [v]).flatten.length = 3 + ps'.flatten.length + v.length := by simp; omega
           have e3 : List.take v.length u' = v := by rw [hv1, List.take_left]
           rw [hv3, zai]
           simp only []
           rw [if_neg (by omega), e1, zak (by omega), Int.toNat_natCast, show 3 + (ps' ++ [v]).flatten.length - (3 + ps'.flatten.length) = v.length by omega, e3, zak (by simp; omega), i64_succ (by omega)]
           rcases ih (i + 1) q (max x12 d) (ps' ++ [v]) w (by omega) (by omega) (by simp [hl']) (fun p hp => by
            rcases List.mem_append.1 hp with h | h
            ·exact hp' p h
            ·rw [List.mem_singleton.1 h]; exact hv2) (by rw [hu, hv1]; simp) with ⟨qs, r, d', hr, he⟩ | ⟨hno, he⟩
           ·refine .inl ⟨v :: qs, r, d', ⟨by simp [hr.1], fun x hx => ?_, by rw [hv1, hr.2.2]; simp⟩, ?_⟩
            ·rcases List.mem_cons.1 hx with rfl | hx
             ·exact hv2
             ·exact hr.2.1 x hx
            ·rw [he]; simp
           ·refine .inr ⟨fun qs r hr => ?_, he⟩
            obtain ⟨qs', _, hr'⟩ := Row.step hv2 hv1 qs r hr
            exact hno qs' r hr'
          ·rw [h0', zai]
           simp only [if_true]
           refine .inr ⟨fun qs r hr => ?_, trivial⟩
           obtain ⟨h1', h2', h3'⟩ := hr
           match qs, h1' with
           | x :: qs', _ => exact hno x (qs'.flatten ++ r) (by rw [h3']; simp) (h2' x (by simp))
        rcases loop _ (b1.toNat * 256 + l.toNat) 0 FU 0 [] u (by omega) (by omega) rfl (by simp) rfl with ⟨qs, r, d, hr, he⟩ | ⟨hno, he⟩
        ·rw [show ((3 + ([] : List (List UInt8)).flatten.length : Nat) : Int) = 3 from rfl, show ((0 : Nat) : Int) = 0 from rfl] at he
         have hql : u.length = qs.flatten.length + r.length := by rw [hr.2.2]; simp
         have ho : ∀ p ∈ qs, ∀ q ∈ qs, (m_ref9_walk_S n).2 p q = some (cmpW p q) := fun p h q h' => by
          have f1 := flat_mem_len h
          have f2 := flat_mem_len h'
          rw [rOrderS k p q (hr.2.1 p h).sh (hr.2.1 q h').sh (by omega) (by omega) (by omega) n (by omega), cmpW_eq (hr.2.1 p h).sh (hr.2.1 q h').sh (by omega)]
         rw [he, List.nil_append]
         simp only [if_true]
         rw [zak (by omega), g0, rParted (k := k) _ _ c qs (fun p hp => (hr.2.1 p hp).sh) (by rw [hr.1]; omega) ho, zai]
         cases hf : formedB c qs with
         | true =>
          refine .inl ⟨c :: b1 :: l :: qs.flatten, r, i64 (d + 1), by rw [hr.2.2]; simp, .comp k c b1 l qs hc hr.1 hr.2.1 hf, ?_⟩
          rw [prt_comp hc hr.1 (fun p hp => (hr.2.1 p hp).sh) (by omega)]
          simp only [Bool.not_true, Bool.false_eq_true, if_false]
          congr 2
          simp only [List.length_cons]; omega
         | false =>
          refine .inr ⟨fun v r' e hv => ?_, by simp⟩
          obtain ⟨ps, hr', hf'⟩ := kc v r' e hv
          have := (Sh.flat (fun p hp => (hr.2.1 p hp).sh) (fun p hp => (hr'.2.1 p hp).sh) (by rw [hr.1, hr'.1]) (by rw [← hr.2.2]; exact hr'.2.2)).1
          rw [this, hf'] at hf; cases hf
        ·rw [show ((3 + ([] : List (List UInt8)).flatten.length : Nat) : Int) = 3 from rfl, show ((0 : Nat) : Int) = 0 from rfl] at he
         rw [he]
         refine .inr ⟨fun v r' e hv => ?_, rfl⟩
         obtain ⟨ps, hr', _⟩ := kc v r' e hv
         exact hno ps r' hr'
end Go.Proofs.YtjlbdhicabgliaaGreat
/- Values: valid, compared, sorted: program and reference agree. -/
namespace Go.Proofs.YtjlbdhicabgliaaGreat
attribute [local irreducible] FU

def Vd (v : List UInt8) : Prop := IsV 32 v ∧ v.length ≤ 131072
noncomputable def vldB (v : List UInt8) : Bool := by classical exact decide (Vd v)
theorem vldB_iff {v : List UInt8} : vldB v = true ↔ Vd v := by unfold vldB; simp
theorem vldB_no {v : List UInt8} (h : ¬ Vd v) : vldB v = false := by cases e : vldB v with | true => exact absurd (vldB_iff.1 e) h | false => rfl
theorem Vd.ne {v : List UInt8} (h : Vd v) : v ≠ [] := fun e => by have := h.1.sh.len; rw [e] at this; simp at this
theorem vValid (v : List UInt8) : m_value_Valid v = some (vldB v) := by
 have hFU := FU_ge
 unfold m_value_Valid
 rw [jn_eq]
 by_cases h0 : v = []
 ·rw [if_neg (fun h => h h0), vldB_no (fun h => h.ne h0)]
 rw [if_pos h0]
 by_cases hl : (v.length : Int) ≤ 131072
 ·rw [if_pos hl]
  have h := vLength 32 (Nat.le_refl _) FU (by omega) v (by omega)
  rw [show (33 : Int) - ((32 : Nat) : Int) = 1 from rfl] at h
  unfold m_value_length
  rcases h with ⟨w, r, e, hv, h⟩ | ⟨hno, h⟩
  ·rw [h, zai]
   congr 1
   by_cases hr : r = []
   ·subst hr
    rw [List.append_nil] at e
    subst e
    rw [vldB_iff.2 ⟨hv, by omega⟩]; simp
   ·have : ¬ Vd v := fun hh => by
     have := (hv.sh.uniq hh.1.sh r [] (by rw [List.append_nil, ← e])).2
     exact hr this
    rw [vldB_no this]
    have hlr : 0 < r.length := List.length_pos_iff.2 hr
    rw [e]; simp; omega
  ·rw [h, zai, vldB_no (fun hh => hno v [] (by simp) hh.1)]
   congr 1
   have : 0 < v.length := List.length_pos_iff.2 h0
   simp; omega
 ·rw [if_neg hl, vldB_no (fun h => hl (by have := h.2; omega))]
theorem rValid (v : List UInt8) : m_ref9_Valid v = some (vldB v) := by
 have hFU := FU_ge
 unfold m_ref9_Valid
 by_cases hl : (131072 : Int) < v.length
 ·rw [if_pos hl, vldB_no (fun h => by have := h.2; omega)]
 ·rw [if_neg hl]
  unfold m_ref9_read m_ref9_walk
  have h := rWalk 32 (Nat.le_refl _) FU (by omega) v (by omega)
  rw [show ((32 : Nat) : Int) = 32 from rfl] at h
  rcases h with ⟨w, r, d, e, hv, h⟩ | ⟨hno, h⟩
  ·rw [h, zai, zai, jn_eq]
   simp only []
   have hw := hv.sh.len
   rw [if_pos (by omega)]
   congr 1
   by_cases hr : r = []
   ·subst hr
    rw [List.append_nil] at e
    subst e
    rw [vldB_iff.2 ⟨hv, by omega⟩]; simp
   ·have : ¬ Vd v := fun hh => hr (hv.sh.uniq hh.1.sh r [] (by rw [List.append_nil, ← e])).2
    rw [vldB_no this]
    have hlr : 0 < r.length := List.length_pos_iff.2 hr
    rw [e]; simp; omega
  ·rw [h, zai, zai, jn_eq, vldB_no (fun hh => hno v [] (by simp) hh.1)]
   simp only []
   rw [if_neg (by omega)]
noncomputable def kindW (v : List UInt8) : Int := if vldB v = true then ((gi v 0).toNat : Int) else 0
theorem vKind (v : List UInt8) : m_value_Kind v = some (kindW v) := by
 unfold m_value_Kind kindW
 rw [vValid, zai]
 cases h : vldB v with
 | true => have := (vldB_iff.1 h).1.sh.len; rw [if_neg (by simp), if_pos rfl, need_len (by omega)]
 | false => rfl
theorem rKind (v : List UInt8) : m_ref9_Kind v = some (kindW v) := by
 unfold m_ref9_Kind kindW
 rw [rValid, zai]
 cases h : vldB v with
 | true => have := (vldB_iff.1 h).1.sh.len; rw [if_neg (by simp), if_pos rfl, need_len (by omega)]
 | false => rfl
noncomputable def prtW (v : List UInt8) : List (List UInt8) := if vldB v = true then prt v else []
theorem vPartsW (v : List UInt8) : m_value_Parts v = some (prtW v) := by
 unfold m_value_Parts prtW
 rw [vKind, zai]
 unfold kindW
 cases h : vldB v with
 | false =>
  simp only [Bool.false_eq_true, if_false]
  have := vSimple 0
  rw [show ((0 : UInt8).toNat : Int) = 0 from rfl] at this
  rw [this, zai]; rfl
 | true =>
  obtain ⟨hv, hl⟩ := vldB_iff.1 h
  simp only [if_true, vSimple, zai]
  by_cases hs : gi v 0 = 1 ∨ gi v 0 = 2 ∨ gi v 0 = 10
  ·rw [if_pos (decide_eq_true (.inr hs))]; unfold prt; rw [if_pos hs]
  ·have h1 : ¬ gi v 0 = 1 := fun h => hs (.inl h)
   have h2 : ¬ (gi v 0 = 2 ∨ gi v 0 = 10) := fun h => hs (.inr h)
   obtain ⟨c, x, y, ps, rfl, hn, hp, _, hc⟩ := hv.sh.kindc h1 h2
   have h0 : ¬ gi (c :: x :: y :: ps.flatten) 0 = 0 := by rw [gi_0]; rintro rfl; simp at hc
   rw [if_neg (fun h => (of_decide_eq_true h).elim h0 hs), vParts hp (by omega) (by simp at hl ⊢; omega), zai, prt_comp hc hn hp (by omega)]
theorem rPartsW (v : List UInt8) : m_ref9_Parts v = some (prtW v) := by
 have hFU := FU_ge
 unfold m_ref9_Parts prtW
 rw [rValid, zai]
 cases h : vldB v with
 | false => rfl
 | true =>
  obtain ⟨hv, hl⟩ := vldB_iff.1 h
  obtain ⟨d, hd⟩ := rWalk0 32 (by omega) v hv.sh FU [] (by omega) (by simp; omega)
  rw [List.append_nil, show ((32 : Nat) : Int) = 32 from rfl] at hd
  unfold m_ref9_walk
  simp only [Bool.not_true, Bool.false_eq_true, if_false, if_true, hd, zai]

noncomputable def cmpC (a b : List UInt8) : Int := if vldB a = true ∧ vldB b = true then cmpW a b else if vldB a = true then 1 else if vldB b = true then -1 else strCmp a b
theorem vCompareW (a b : List UInt8) : m_value_Compare a b = some (cmpC a b) := by
 unfold m_value_Compare cmpC
 rw [vValid, zai, vValid, zai, jn_eq]
 cases ha : vldB a <;> cases hb : vldB b
 ·simp [cStr, zai]
 ·simp
 ·simp
 ·obtain ⟨h1, l1⟩ := vldB_iff.1 ha
  obtain ⟨h2, l2⟩ := vldB_iff.1 hb
  simp only [if_true, and_self]
  rw [vCompare h1.sh h2.sh (by omega) (by omega) (by omega), zai]; rfl
theorem rCompareW (a b : List UInt8) : m_ref9_Compare a b = some (cmpC a b) := by
 have hFU := FU_ge
 unfold m_ref9_Compare cmpC
 rw [rValid, zai, rValid, zai, jn_eq]
 cases ha : vldB a <;> cases hb : vldB b
 ·simp only [Bool.false_eq_true, if_false, and_self, not_true_eq_false, rSignStr, zai]
 ·simp [rSign, zai]
 ·simp [rSign, zai]
 ·obtain ⟨h1, l1⟩ := vldB_iff.1 ha
  obtain ⟨h2, l2⟩ := vldB_iff.1 hb
  simp only [if_true, and_self]
  unfold m_ref9_order
  rw [rOrderS 32 a b h1.sh h2.sh (by omega) (by omega) (by omega) FU (by omega), zai]; rfl
theorem cmpW_TO : TO (Sh 32) cmpW := cmpV_TO 32
theorem cmpC_TO : TO (fun _ => True) cmpC := by
 have hk : TO (fun _ : Bool => True) (fun a b : Bool => if a = b then 0 else if a = true then 1 else -1) := by
  refine ⟨fun a b _ _ => ?_, fun a b _ _ => ?_, fun a b d _ _ _ => ?_, fun a b _ _ => ?_⟩
  ·cases a <;> cases b <;> simp
  ·cases a <;> cases b <;> simp
  ·cases a <;> cases b <;> cases d <;> simp
  ·cases a <;> cases b <;> simp
 refine TO.byKey vldB hk (fun K => ?_) (fun a b _ _ hne => ?_)
 ·cases K with
  | true => exact (cmpW_TO.sub (Q := fun v => True ∧ vldB v = true) (fun v hv => (vldB_iff.1 hv.2).1.sh)).congr (fun a b ha hb => by unfold cmpC; rw [if_pos ⟨ha.2, hb.2⟩])
  | false => exact (TO_str.sub (Q := fun v => True ∧ vldB v = false) (fun _ _ => trivial)).congr (fun a b ha hb => by unfold cmpC; simp [ha.2, hb.2])
 ·unfold cmpC
  cases ha : vldB a <;> cases hb : vldB b
  ·rw [ha, hb] at hne; exact absurd rfl hne
  ·simp
  ·simp
  ·rw [ha, hb] at hne; exact absurd rfl hne
theorem cmpC_self (a : List UInt8) : cmpC a a = 0 := cmpC_TO.self a trivial
theorem cmpC_trans {a b c : List UInt8} (h : cmpC a b < 0) (h' : cmpC b c < 0) : cmpC a c < 0 := cmpC_TO.trans a b c trivial trivial trivial h h'
theorem cmpC_anti (a b : List UInt8) : cmpC b a = - cmpC a b := cmpC_TO.anti a b trivial trivial
theorem cmpC_eq {a b : List UInt8} : cmpC a b = 0 ↔ a = b := cmpC_TO.eq a b trivial trivial
noncomputable def cmpS (a b : List UInt8) : Option Int := some (cmpC a b)
theorem cmpC_ok : CmpOk cmpS := by
 have e : ∀ x y, ltC cmpS x y = decide (cmpC x y < 0) := fun x y => rfl
 refine ⟨fun x y => ⟨_, rfl⟩, fun x => ?_, fun x y z => ?_, fun x y z => ?_, fun x y => ?_⟩
 ·rw [e, cmpC_self]; rfl
 ·simp only [e, decide_eq_true_eq]; exact cmpC_trans
 ·simp only [e, decide_eq_false_iff_not]
  intro h1 h2 h3
  have a1 := cmpC_anti x y
  have a2 := cmpC_anti y z
  by_cases e1 : cmpC x y = 0
  ·rw [cmpC_eq] at e1; subst e1; exact h2 h3
  ·have := cmpC_trans (a := y) (b := x) (c := z) (by omega) h3
   exact h2 this
 ·simp only [e, decide_eq_false_iff_not]
  intro h1 h2
  have a1 := cmpC_anti x y
  exact cmpC_eq.1 (by omega)
abbrev SLC (l : List (List UInt8)) : Prop := l.Pairwise (fun a b => cmpC a b < 0)
theorem slc_ext {a b : List (List UInt8)} (ha : SLC a) (hb : SLC b) (h : ∀ x, x ∈ a ↔ x ∈ b) : a = b :=
 SL_ext (lt := fun a b => cmpC a b < 0) (fun a => by rw [cmpC_self]; omega) (fun h h' => cmpC_trans h h') ha hb h
noncomputable def sortW (l : List (List UInt8)) : List (List UInt8) := compactL (sortC cmpS l)
theorem sortW_spec (l : List (List UInt8)) : SLC (sortW l) ∧ (∀ x, x ∈ sortW l ↔ x ∈ l) ∧ (sortW l).length ≤ l.length := by
 have e : ∀ x y, ltC cmpS x y = decide (cmpC x y < 0) := fun x y => rfl
 unfold sortW sortC
 refine ⟨compactL_sorted (lt := fun a b => cmpC a b < 0) (fun a => by rw [cmpC_self]; omega) (fun h h' => cmpC_trans h h') _ ?_, fun x => by rw [compactL_mem]; exact List.mem_mergeSort, Nat.le_trans (compactL_len _) (by rw [List.length_mergeSort]; exact Nat.le_refl _)⟩
 have h := List.pairwise_mergeSort (le := fun x y : List UInt8 => !ltC cmpS y x) (fun a b c h1 h2 => by
  simp only [Bool.not_eq_true'] at h1 h2 ⊢
  exact cmpC_ok.ntrans c b a h2 h1) (fun a b => by
  simp only [Bool.or_eq_true, Bool.not_eq_true', e, decide_eq_false_iff_not]
  have := cmpC_anti a b
  omega) l
 refine h.imp fun {a b} hab => ?_
 simp only [Bool.not_eq_true', e, decide_eq_false_iff_not] at hab
 have := cmpC_anti a b
 by_cases h0 : cmpC a b = 0
 ·exact .inl (cmpC_eq.1 h0)
 ·exact .inr (by omega)
end Go.Proofs.YtjlbdhicabgliaaGreat
/- Sorting values: program and reference agree. -/
namespace Go.Proofs.YtjlbdhicabgliaaGreat
attribute [local irreducible] FU
theorem m_slices_Compact_L_api_Value_api_Value_in (l : List (List UInt8)) (hl : l.length ≤ 1099511627776) (i : Nat) (K : List (List UInt8) → Int → Option (List (List UInt8))) : ∀ (m j n : Nat) (x0 : List (List UInt8)) (x3 : Nat), i + j + m = l.length → 1 ≤ j → m < n → x0.length = l.length → x3 + 1 ≤ i + j → x0.take x3 = compactL (l.take (i + j)) → x3 = (compactL (l.take (i + j))).length → (∀ q, i + j ≤ q + 1 → x0[q]? = l[q]?) →
  ∃ (x0' : List (List UInt8)) (x3' : Nat), m_slices_Compact_L_api_Value_api_Value_L26 l i K n x0 x3 j = K x0' x3' ∧ x0'.length = l.length ∧ x3' ≤ l.length ∧ x0'.take x3' = compactL l := by
 intro m
 induction m with
 | zero =>
  intro j n x0 x3 hi hj hn hx h3 ht h3' hq
  obtain ⟨n, rfl⟩ : ∃ k, n = k + 1 := ⟨n - 1, by omega⟩
  refine ⟨x0, x3, ?_, hx, by omega, ?_⟩
  ·rw [m_slices_Compact_L_api_Value_api_Value_L26, m_slices_Compact_L_api_Value_api_Value_B26, if_neg (by omega)]
  ·rw [ht, show i + j = l.length by omega, List.take_length]
 | succ m ih =>
  intro j n x0 x3 hi hj hn hx h3 ht h3' hq
  obtain ⟨n, rfl⟩ : ∃ k, n = k + 1 := ⟨n - 1, by omega⟩
  have hlt : i + j < l.length := by omega
  have g1 : gi x0 ((i : Int) + (j : Int)) = l[i + j] := by
   rw [show (i : Int) + (j : Int) = ((i + j : Nat) : Int) by omega, gi_nat (by omega)]
   have := hq (i + j) (by omega)
   rw [List.getElem?_eq_getElem (by omega), List.getElem?_eq_getElem hlt] at this
   exact Option.some.inj this
  have g2 : gi x0 ((i : Int) + ((j : Int) - 1)) = l[i + j - 1] := by
   rw [show (i : Int) + ((j : Int) - 1) = ((i + j - 1 : Nat) : Int) by omega, gi_nat (by omega)]
   have := hq (i + j - 1) (by omega)
   rw [List.getElem?_eq_getElem (by omega), List.getElem?_eq_getElem (by omega)] at this
   exact Option.some.inj this
  have hsn : compactL (l.take (i + (j + 1))) = cstep (compactL (l.take (i + j))) l[i + j] := by
   rw [show i + (j + 1) = (i + j) + 1 by omega, ← List.take_append_getElem hlt, compactL_snoc]
  have hla : (compactL (l.take (i + j))).getLast? = some l[i + j - 1] := by
   rw [compactL_last, List.getLast?_eq_getElem?]
   simp only [List.length_take]
   rw [show min (i + j) l.length - 1 = i + j - 1 by omega, List.getElem?_take_of_lt (by omega), List.getElem?_eq_getElem (by omega)]
  rw [m_slices_Compact_L_api_Value_api_Value_L26, m_slices_Compact_L_api_Value_api_Value_B26]
  simp (disch := omega) only [if_pos, jn_eq, zak, i64_sub1, i64_succ, g1, g2]
  by_cases he : l[i + j] = l[i + j - 1]
  ·rw [if_neg (by simp [he])]
   refine ih (j + 1) n x0 x3 (by omega) (by omega) (by omega) hx (by omega) ?_ ?_ (fun q h => hq q (by omega))
   ·rw [ht, hsn, cstep, if_pos (by rw [hla, he])]
   ·rw [hsn, cstep, if_pos (by rw [hla, he])]; exact h3'
  ·rw [if_pos he]
   simp (disch := omega) only [zak, Int.toNat_natCast, i64_succ]
   have hc : cstep (compactL (l.take (i + j))) l[i + j] = compactL (l.take (i + j)) ++ [l[i + j]] := by
    rw [cstep, if_neg]
    rw [hla]; exact fun e => he (Option.some.inj e).symm
   refine ih (j + 1) n _ (x3 + 1) (by omega) (by omega) (by omega) (by simp [hx]) (by omega) ?_ ?_ (fun q h => ?_)
   ·rw [hsn, hc, ← ht]
    rw [List.take_succ_eq_append_getElem (by simp; omega)]
    congr 1
    ·rw [List.take_set_of_le (by omega)]
    ·simp
   ·rw [hsn, hc]; simp; omega
   ·rw [List.getElem?_set_ne (by omega)]
    exact hq q (by omega)
theorem m_slices_Compact_L_api_Value_api_Value_out (l : List (List UInt8)) (hl : l.length ≤ 1099511627776) : ∀ (m i n : Nat), i + m = l.length → 1 ≤ i → m < n → compactL (l.take i) = l.take i →
  m_slices_Compact_L_api_Value_api_Value_L14 l (fun _ => some l) n i = some (compactL l) := by
 intro m
 induction m with
 | zero =>
  intro i n hi h1 hn hc
  obtain ⟨n, rfl⟩ : ∃ k, n = k + 1 := ⟨n - 1, by omega⟩
  rw [m_slices_Compact_L_api_Value_api_Value_L14, m_slices_Compact_L_api_Value_api_Value_B14, if_neg (by omega)]
  rw [show i = l.length by omega, List.take_length] at hc
  rw [hc]
 | succ m ih =>
  intro i n hi h1 hn hc
  obtain ⟨n, rfl⟩ : ∃ k, n = k + 1 := ⟨n - 1, by omega⟩
  have hlt : i < l.length := by omega
  have g2 : gi l ((i : Int) - 1) = l[i - 1] := by
   rw [show (i : Int) - 1 = ((i - 1 : Nat) : Int) by omega, gi_nat (by omega)]
  have hla : (l.take i).getLast? = some l[i - 1] := by
   rw [List.getLast?_eq_getElem?]
   simp only [List.length_take]
   rw [show min i l.length - 1 = i - 1 by omega, List.getElem?_take_of_lt (by omega), List.getElem?_eq_getElem (by omega)]
  have hsn : compactL (l.take (i + 1)) = cstep (l.take i) l[i] := by
   rw [← List.take_append_getElem hlt, compactL_snoc, hc]
  rw [m_slices_Compact_L_api_Value_api_Value_L14, m_slices_Compact_L_api_Value_api_Value_B14]
  simp (disch := omega) only [if_pos, jn_eq, zak, i64_sub1, i64_succ, g2, gi_nat]
  by_cases he : l[i] = l[i - 1]
  ·rw [if_pos he]
   have hct : compactL (l.take (i + 1)) = l.take i := by rw [hsn, cstep, if_pos (by rw [hla, he])]
   have hFU := FU_ge
   obtain ⟨x0', x3', e1, e2, e3, e4⟩ := m_slices_Compact_L_api_Value_api_Value_in l hl i (fun x0_j694 x3_j694 => need ((0 : Int) ≤ x3_j694 ∧ x3_j694 ≤ (List.length x0_j694 : Int) ∧ (List.length x0_j694 : Int) ≤ (List.length x0_j694 : Int)) (need (0 ≤ x3_j694 ∧ x3_j694 ≤ (List.length (List.take (Int.toNat x3_j694) x0_j694 ++ List.replicate (Int.toNat (List.length x0_j694 : Int) - Int.toNat x3_j694) ([] : (List UInt8)) ++ List.drop (Int.toNat x3_j694 + (Int.toNat (List.length x0_j694 : Int) - Int.toNat x3_j694)) x0_j694) : Int)) (some (List.take (Int.toNat x3_j694) (List.take (Int.toNat x3_j694) x0_j694 ++ List.replicate (Int.toNat (List.length x0_j694 : Int) - Int.toNat x3_j694) ([] : (List UInt8)) ++ List.drop (Int.toNat x3_j694 + (Int.toNat (List.length x0_j694 : Int) - Int.toNat x3_j694)) x0_j694)))))
    (l.length - i - 1) 1 FU l i (by omega) (by omega) (by omega) rfl (by omega) hct.symm (by rw [hct]; simp; omega) (fun q _ => rfl)
   rw [show ((1 : Nat) : Int) = 1 from rfl] at e1
   rw [e1]
   have hlen : (List.take x3' x0' ++ List.replicate (x0'.length - x3') ([] : (List UInt8)) ++ List.drop (x3' + (x0'.length - x3')) x0').length = x0'.length := by simp; omega
   simp only [Int.toNat_natCast, hlen]
   rw [zak (by omega), zak (by omega), List.append_assoc, List.take_append_of_le_length (by simp; omega), List.take_take, Nat.min_self, e4]
  ·rw [if_neg he]
   refine ih (i + 1) n (by omega) (by omega) (by omega) ?_
   rw [hsn, cstep, if_neg, List.take_append_getElem hlt]
   rw [hla]; exact fun e => he (Option.some.inj e).symm
theorem m_slices_Compact_L_api_Value_api_Value_eq (l : List (List UInt8)) (hl : l.length ≤ 1099511627776) : m_slices_Compact_L_api_Value_api_Value l = some (compactL l) := by
 unfold m_slices_Compact_L_api_Value_api_Value
 have hFU := FU_ge
 by_cases h : (List.length l : Int) < 2
 ·rw [if_pos h]
  congr 1
  match l, h with
  | [], _ => rfl
  | [x], _ => simp [compactL, cstep]
  | x :: y :: t, h => simp at h; omega
 ·rw [if_neg h, jn_eq]
  have h1 : compactL (l.take 1) = l.take 1 := by
   match l with
   | [] => rfl
   | x :: t => simp [compactL, cstep]
  exact m_slices_Compact_L_api_Value_api_Value_out l hl (l.length - 1) 1 FU (by omega) (by omega) (by omega) h1


theorem vClone (l : List (List UInt8)) (hl : l.length ≤ 100000000) : m_slices_Clone_L_api_Value_api_Value l = some l := by
 unfold m_slices_Clone_L_api_Value_api_Value
 rw [nilc_eq (fun h => by subst h; simp [need]), zak (by simp; omega)]
 simp
theorem vSort (l : List (List UInt8)) (hl : l.length ≤ 100000000) : m_value_Sort l = some (sortW l) := by
 unfold m_value_Sort
 have hc : m_value_Compare = cmpS := funext fun a => funext fun b => vCompareW a b
 have hs := m_sortby_eq (c := cmpS) (xs := l) (by omega) cmpC_ok
 have hlen : (sortC cmpS l).length = l.length := List.length_mergeSort _
 rw [vClone l hl, zai, hc, hs, zai, m_slices_Compact_L_api_Value_api_Value_eq _ (by rw [hlen]; omega), zai, vClip, zai]
 rfl
theorem ins_eq {α : Type} (out : List α) (j : Nat) (hj : j ≤ out.length) (z x : α) :
  (List.take (j + 1) (out ++ [z]) ++ List.take (Nat.min ((out ++ [z]).length - j) ((out ++ [z]).length - (j + 1))) (List.drop j (out ++ [z])) ++ List.drop (j + 1 + Nat.min ((out ++ [z]).length - j) ((out ++ [z]).length - (j + 1))) (out ++ [z])).length = out.length + 1 ∧
  List.set (List.take (j + 1) (out ++ [z]) ++ List.take (Nat.min ((out ++ [z]).length - j) ((out ++ [z]).length - (j + 1))) (List.drop j (out ++ [z])) ++ List.drop (j + 1 + Nat.min ((out ++ [z]).length - j) ((out ++ [z]).length - (j + 1))) (out ++ [z])) j x = out.take j ++ [x] ++ out.drop j := by
 have hm : Nat.min ((out ++ [z]).length - j) ((out ++ [z]).length - (j + 1)) = out.length - j := by
  have : Nat.min ((out ++ [z]).length - j) ((out ++ [z]).length - (j + 1)) = min ((out ++ [z]).length - j) ((out ++ [z]).length - (j + 1)) := rfl
  rw [this]; simp; omega
 rw [hm]
 have h1 : List.drop (j + 1 + (out.length - j)) (out ++ [z]) = [] := List.drop_eq_nil_of_le (by simp; omega)
 have h2 : List.take (out.length - j) (List.drop j (out ++ [z])) = out.drop j := by
  rw [List.drop_append_of_le_length hj, List.take_left' (by simp)]
 rw [h1, h2, List.append_nil]
 refine ⟨by simp; omega, ?_⟩
 obtain ⟨y, hy⟩ : ∃ y, List.take (j + 1) (out ++ [z]) = out.take j ++ [y] := by
  by_cases h : j < out.length
  ·exact ⟨out[j], by rw [List.take_append_of_le_length (by omega), List.take_append_getElem h]⟩
  ·have : j = out.length := by omega
   subst this
   exact ⟨z, by rw [List.take_of_length_le (by simp), List.take_length]⟩
 rw [hy, List.append_assoc, List.append_assoc, List.set_append_right _ _ (by simp; omega)]
 congr 1
 have : j - (out.take j).length = 0 := by simp; omega
 rw [this]; rfl
theorem rSort_place (l : List (List UInt8)) (out : List (List UInt8)) (i : Nat) (hi : i < l.length) (hl : l.length ≤ 100000000000) (ho : out.length ≤ 100000000000) (K : Int → Option (List (List UInt8))) : ∀ (k n : Nat), k ≤ out.length → k < n →
  ∃ j : Nat, j ≤ k ∧ m_ref9_Sort_L26 l out i K n k = K j ∧ (∀ q (h : q < out.length), j ≤ q → q < k → 0 < cmpC out[q] l[i]) ∧ (∀ h : j - 1 < out.length, 0 < j → ¬ 0 < cmpC out[j - 1] l[i]) := by
 intro k
 induction k with
 | zero =>
  intro n h1 h2
  obtain ⟨n, rfl⟩ : ∃ q, n = q + 1 := ⟨n - 1, by omega⟩
  refine ⟨0, Nat.le_refl _, ?_, fun q h h' h'' => by omega, fun h h' => by omega⟩
  rw [m_ref9_Sort_L26, m_ref9_Sort_B26]
  simp only [jn_eq]
  rw [if_neg (by simp), if_neg (by simp)]
 | succ k ih =>
  intro n h1 h2
  obtain ⟨n, rfl⟩ : ∃ q, n = q + 1 := ⟨n - 1, by omega⟩
  have e1 : i64 (((k + 1 : Nat) : Int) - 1) = (k : Int) := by rw [i64_id (by omega)]; omega
  rw [m_ref9_Sort_L26, m_ref9_Sort_B26]
  simp only [jn_eq]
  rw [if_pos (by omega), zak (by omega), e1, zak (by omega), gi_nat (by omega), gi_nat hi, rCompareW, zai]
  by_cases hc : 0 < cmpC out[k] l[i]
  ·rw [if_pos (decide_eq_true hc)]
   obtain ⟨j, j1, j2, j3, j4⟩ := ih n (by omega) (by omega)
   refine ⟨j, by omega, j2, fun q h h' h'' => ?_, j4⟩
   by_cases hq : q = k
   ·subst hq; exact hc
   ·exact j3 q h h' (by omega)
  ·rw [if_neg (fun h => hc (of_decide_eq_true h))]
   exact ⟨k + 1, Nat.le_refl _, rfl, fun q h h' h'' => by omega, fun h h' => by simpa using hc⟩
theorem rSort_loop (l : List (List UInt8)) (hl : l.length ≤ 10000000000) : ∀ (m i n : Nat) (out : List (List UInt8)), i + m = l.length → m < n → SLC out → out.length ≤ i → (∀ x, x ∈ out ↔ x ∈ l.take i) →
  ∃ s, m_ref9_Sort_L14 l (fun x => some x) n out i = some s ∧ SLC s ∧ (∀ x, x ∈ s ↔ x ∈ l) := by
 have hFU := FU_ge
 intro m
 induction m with
 | zero =>
  intro i n out hi hn hs ho hm
  obtain ⟨n, rfl⟩ : ∃ q, n = q + 1 := ⟨n - 1, by omega⟩
  refine ⟨out, by rw [m_ref9_Sort_L14, m_ref9_Sort_B14, if_neg (by omega)], hs, fun x => ?_⟩
  rw [hm, show i = l.length by omega, List.take_length]
 | succ m ih =>
  intro i n out hi hn hs ho hm
  obtain ⟨n, rfl⟩ : ∃ q, n = q + 1 := ⟨n - 1, by omega⟩
  have hil : i < l.length := by omega
  have hmem : ∀ x, x ∈ l.take (i + 1) ↔ x ∈ l.take i ∨ x = l[i] := fun x => by
   rw [← List.take_append_getElem hil]; simp only [List.mem_append, List.mem_singleton]
  rw [m_ref9_Sort_L14, m_ref9_Sort_B14, if_pos (by omega)]
  simp only [jn_eq]
  obtain ⟨j, j1, j2, j3, j4⟩ := rSort_place l out i hil (by omega) (by omega) _ out.length FU (Nat.le_refl _) (by omega)
  rw [j2]
  have hpw := List.pairwise_iff_getElem.1 hs
  have go : (∀ a ∈ out.take j, cmpC a l[i] < 0) → ∃ s, need (List.length out + List.length [([] : List UInt8)] ≤ 137438953472) (need ((0 : Int) ≤ i64 ((j : Int) + 1) ∧ (i64 ((j : Int) + 1)) ≤ (List.length (out ++ ([([] : List UInt8)])) : Int) ∧ (List.length (out ++ ([([] : List UInt8)])) : Int) ≤ (List.length (out ++ ([([] : List UInt8)])) : Int)) (need ((0 : Int) ≤ (j : Int) ∧ (j : Int) ≤ (List.length (out ++ ([([] : List UInt8)])) : Int) ∧ (List.length (out ++ ([([] : List UInt8)])) : Int) ≤ (List.length (out ++ ([([] : List UInt8)])) : Int)) (need ((0 : Int) ≤ (i : Int) ∧ (i : Int) < (List.length l : Int)) (need ((0 : Int) ≤ (j : Int) ∧ (j : Int) < (List.length (List.take (Int.toNat (i64 ((j : Int) + 1))) (out ++ ([([] : List UInt8)])) ++ List.take (Nat.min (Int.toNat (List.length (out ++ ([([] : List UInt8)])) : Int) - Int.toNat (j : Int)) (Int.toNat (List.length (out ++ ([([] : List UInt8)])) : Int) - Int.toNat (i64 ((j : Int) + 1)))) (List.drop (Int.toNat (j : Int)) (out ++ ([([] : List UInt8)]))) ++ List.drop (Int.toNat (i64 ((j : Int) + 1)) + (Nat.min (Int.toNat (List.length (out ++ ([([] : List UInt8)])) : Int) - Int.toNat (j : Int)) (Int.toNat (List.length (out ++ ([([] : List UInt8)])) : Int) - Int.toNat (i64 ((j : Int) + 1))))) (out ++ ([([] : List UInt8)]))) : Int)) (m_ref9_Sort_L14 l (fun x => some x) n (List.set (List.take (Int.toNat (i64 ((j : Int) + 1))) (out ++ ([([] : List UInt8)])) ++ List.take (Nat.min (Int.toNat (List.length (out ++ ([([] : List UInt8)])) : Int) - Int.toNat (j : Int)) (Int.toNat (List.length (out ++ ([([] : List UInt8)])) : Int) - Int.toNat (i64 ((j : Int) + 1)))) (List.drop (Int.toNat (j : Int)) (out ++ ([([] : List UInt8)]))) ++ List.drop (Int.toNat (i64 ((j : Int) + 1)) + (Nat.min (Int.toNat (List.length (out ++ ([([] : List UInt8)])) : Int) - Int.toNat (j : Int)) (Int.toNat (List.length (out ++ ([([] : List UInt8)])) : Int) - Int.toNat (i64 ((j : Int) + 1))))) (out ++ ([([] : List UInt8)]))) (Int.toNat (j : Int)) l[i]) (i64 ((i : Int) + 1))))))) = some s ∧ SLC s ∧ (∀ x, x ∈ s ↔ x ∈ l) := by
   intro hA
   have e2 : i64 ((j : Int) + 1) = ((j + 1 : Nat) : Int) := by rw [i64_id (by omega)]; omega
   obtain ⟨q1, q2⟩ := ins_eq out j j1 ([] : List UInt8) l[i]
   have hlo : (out ++ [([] : List UInt8)]).length = out.length + 1 := by simp
   rw [zak (by simp; omega)]
   simp only [e2, Int.toNat_natCast]
   rw [zak (by rw [hlo]; omega), zak (by rw [hlo]; omega), zak (by omega), zak (by rw [q1]; omega), q2, i64_succ (by omega)]
   refine ih (i + 1) n _ (by omega) (by omega) ?_ (by simp; omega) (fun x => ?_)
   ·have hsp : SLC (out.take j ++ out.drop j) := by rw [List.take_append_drop]; exact hs
    obtain ⟨p1, p2, p3⟩ := List.pairwise_append.1 hsp
    rw [SLC, List.append_assoc, List.pairwise_append]
    refine ⟨p1, ?_, fun a ha b hb => ?_⟩
    ·simp only [List.singleton_append, List.pairwise_cons]
     refine ⟨fun b hb => ?_, p2⟩
     obtain ⟨q, hq, rfl⟩ := List.getElem_of_mem hb
     rw [List.getElem_drop]
     simp only [List.length_drop] at hq
     have := j3 (j + q) (by omega) (by omega) (by omega)
     rw [cmpC_anti out[j + q] l[i]]; omega
    ·simp only [List.singleton_append, List.mem_cons] at hb
     rcases hb with rfl | hb
     ·exact hA a ha
     ·exact p3 a ha b hb
   ·rw [hmem, ← hm]
    have : x ∈ out ↔ x ∈ out.take j ∨ x ∈ out.drop j := by rw [← List.mem_append, List.take_append_drop]
    rw [this]
    simp only [List.append_assoc, List.mem_append, List.mem_singleton]
    constructor
    ·rintro (h | h | h) <;> simp [h]
    ·rintro ((h | h) | h) <;> simp [h]
  by_cases h0 : 0 < j
  ·have hj1 : j - 1 < out.length := by omega
   have e1 : i64 ((j : Int) - 1) = ((j - 1 : Nat) : Int) := by rw [i64_id (by omega)]; omega
   rw [if_pos (by omega), zak (by omega), e1, zak (by omega), gi_nat hj1, gi_nat hil]
   by_cases he : out[j - 1] = l[i]
   ·rw [if_pos (decide_eq_true he), i64_succ (by omega)]
    refine ih (i + 1) n out (by omega) (by omega) hs (by omega) (fun x => ?_)
    rw [hmem, ← hm]
    exact ⟨Or.inl, fun h => h.elim id (fun h => by rw [h, ← he]; exact List.getElem_mem _)⟩
   ·rw [if_neg (fun h => he (of_decide_eq_true h))]
    have hlt : cmpC out[j - 1] l[i] < 0 := by
     have h1 := j4 hj1 h0
     have h2 : cmpC out[j - 1] l[i] ≠ 0 := fun h => he (cmpC_eq.1 h)
     omega
    refine go (fun a ha => ?_)
    obtain ⟨q, hq, rfl⟩ := List.getElem_of_mem ha
    simp only [List.length_take] at hq
    rw [List.getElem_take]
    by_cases e : q = j - 1
    ·subst e; exact hlt
    ·exact cmpC_trans (hpw q (j - 1) (by omega) hj1 (by omega)) hlt
  ·rw [if_neg (by omega), if_neg (by simp), gi_nat hil]
   exact go (fun a ha => by rw [show j = 0 by omega] at ha; simp at ha)
theorem rSort (l : List (List UInt8)) (hl : l.length ≤ 10000000000) : m_ref9_Sort l = some (sortW l) := by
 have hFU := FU_ge
 unfold m_ref9_Sort
 rw [jn_eq]
 obtain ⟨s, s1, s2, s3⟩ := rSort_loop l hl l.length 0 FU [] (by omega) (by omega) List.Pairwise.nil (by simp) (by simp)
 rw [Int.natCast_zero] at s1
 rw [s1]
 obtain ⟨t1, t2, _⟩ := sortW_spec l
 rw [slc_ext s2 t1 (fun x => by rw [s3, t2])]
end Go.Proofs.YtjlbdhicabgliaaGreat
/- Making values: program and reference agree. -/
namespace Go.Proofs.YtjlbdhicabgliaaGreat
attribute [local irreducible] FU

def raw (c : UInt8) (l : List (List UInt8)) : List UInt8 := c :: u8i ((l.length / 256 : Nat) : Int) :: u8i ((l.length : Nat) : Int) :: l.flatten
theorem raw_len (c : UInt8) (l : List (List UInt8)) : (raw c l).length = l.flatten.length + 3 := rfl
theorem raw_count {l : List (List UInt8)} (h : l.length ≤ 65535) : l.length = (u8i ((l.length / 256 : Nat) : Int)).toNat * 256 + (u8i ((l.length : Nat) : Int)).toNat := by
 rw [u8i_nat, u8i_nat]; omega
noncomputable def cmpd (c : UInt8) (l : List (List UInt8)) : List UInt8 := by
 classical exact if l.length ≤ 65535 ∧ (∀ x ∈ l, Vd x) ∧ Vd (raw c l) then raw c l else []
theorem cmpd_yes {c : UInt8} {l : List (List UInt8)} (h : l.length ≤ 65535 ∧ (∀ x ∈ l, Vd x) ∧ Vd (raw c l)) : cmpd c l = raw c l := by unfold cmpd; rw [if_pos h]
theorem cmpd_no {c : UInt8} {l : List (List UInt8)} (h : ¬ (l.length ≤ 65535 ∧ (∀ x ∈ l, Vd x) ∧ Vd (raw c l))) : cmpd c l = [] := by unfold cmpd; rw [if_neg h]
theorem cmpd_ne {c : UInt8} {l : List (List UInt8)} : cmpd c l ≠ [] ↔ (l.length ≤ 65535 ∧ (∀ x ∈ l, Vd x) ∧ Vd (raw c l)) := by
 constructor
 ·intro h
  exact Classical.byContradiction fun hn => h (cmpd_no hn)
 ·intro h; rw [cmpd_yes h]; simp [raw]
theorem prt_raw {c : UInt8} {l : List (List UInt8)} (hc : 3 ≤ c.toNat ∧ c.toNat ≤ 9) (hl : l.length ≤ 65535) (hv : ∀ x ∈ l, Vd x) : prt (raw c l) = l := prt_comp hc (raw_count hl) (fun x h => (hv x h).1.sh) (by omega)
theorem indexFunc_eq (f : List UInt8 → Option Bool) (p : List UInt8 → Bool) (hf : ∀ x, f x = some (p x)) (l : List (List UInt8)) (hl : l.length ≤ 1099511627776) : zbg l f = some (l.any p) := by
 have hFU := FU_ge
 unfold zbg m_slices_IndexFunc_L_api_Value_api_Value
 rw [jn_eq]
 have loop : ∀ (m i n : Nat), i + m = l.length → m < n → ∃ r, zbk l f (fun _ => some (-1)) n i = some r ∧ decide (0 ≤ r) = (l.drop i).any p := by
  intro m
  induction m with
  | zero =>
   intro i n hi hn
   obtain ⟨n, rfl⟩ : ∃ k, n = k + 1 := ⟨n - 1, by omega⟩
   refine ⟨-1, by rw [zbk, m_slices_IndexFunc_L_api_Value_api_Value_B2, if_neg (by omega)], ?_⟩
   rw [List.drop_eq_nil_of_le (by omega)]; rfl
  | succ m ih =>
   intro i n hi hn
   obtain ⟨n, rfl⟩ : ∃ k, n = k + 1 := ⟨n - 1, by omega⟩
   have hil : i < l.length := by omega
   rw [zbk, m_slices_IndexFunc_L_api_Value_api_Value_B2, if_pos (by omega), zak (by omega), gi_nat hil, hf, zai, List.drop_eq_getElem_cons hil, List.any_cons]
   cases hp : p l[i] with
   | true => exact ⟨i, rfl, by simp⟩
   | false =>
    rw [if_neg (by simp), i64_succ (by omega)]
    obtain ⟨r, h1, h2⟩ := ih (i + 1) n (by omega) (by omega)
    exact ⟨r, h1, by rw [h2]; simp⟩
 obtain ⟨r, h1, h2⟩ := loop l.length 0 FU (by omega) (by omega)
 rw [Int.natCast_zero] at h1
 rw [h1, zai, h2, List.drop_zero]
theorem vChecked (b : List UInt8) : m_value_checked b = some (if vldB b = true then b else []) := by
 unfold m_value_checked
 rw [vValid, zai]
 cases vldB b <;> rfl
theorem rChecked (b : List UInt8) : m_ref9_checked b = some (if vldB b = true then b else []) := by
 unfold m_ref9_checked
 rw [rValid, zai]
 cases vldB b <;> rfl
theorem vCompound (c : UInt8) (l : List (List UInt8)) (hx : ∀ x ∈ l, x.length ≤ 1099511627776) : m_value_compound (c.toNat : Int) l = some (cmpd c l) := by
 have hFU := FU_ge
 unfold m_value_compound
 by_cases hl : (65535 : Int) < l.length
 ·rw [if_pos hl, cmpd_no (fun h => by have := h.1; omega)]
 ·rw [if_neg hl, u8i_toNat]
  have e16 : IntKind.u16.wrap (l.length : Int) = (l.length : Int) := by
   unfold IntKind.wrap IntKind.bits IntKind.signed
   simp; omega
  have e8 : Int.fdiv (l.length : Int) (2 ^ min (Int.toNat 8) IntKind.u16.bits) = ((l.length / 256 : Nat) : Int) := by
   rw [show (2 : Int) ^ min (Int.toNat 8) IntKind.u16.bits = 256 from rfl, Int.fdiv_eq_ediv_of_nonneg _ (by omega)]; omega
  unfold m_value_append16
  rw [e16, e8, zak (by simp), zai, jn_eq]
  have loop : ∀ (K : List UInt8 → Option (List UInt8)) (m i n : Nat) (b : List UInt8), i + m = l.length → m < n → b.length ≤ 131072 →
    ((∀ x ∈ l.drop i, x ≠ []) ∧ b.length + (l.drop i).flatten.length ≤ 131072 ∧ m_value_compound_L2 l K n b i = K (b ++ (l.drop i).flatten)) ∨ (¬ ((∀ x ∈ l.drop i, x ≠ []) ∧ b.length + (l.drop i).flatten.length ≤ 131072) ∧ m_value_compound_L2 l K n b i = some []) := by
   intro K m
   induction m with
   | zero =>
    intro i n b hi hn hb
    obtain ⟨n, rfl⟩ : ∃ k, n = k + 1 := ⟨n - 1, by omega⟩
    rw [List.drop_eq_nil_of_le (by omega)]
    refine .inl ⟨by simp, by simpa using hb, ?_⟩
    rw [m_value_compound_L2, m_value_compound_B2, if_neg (by omega)]; simp
   | succ m ih =>
    intro i n b hi hn hb
    obtain ⟨n, rfl⟩ : ∃ k, n = k + 1 := ⟨n - 1, by omega⟩
    have hil : i < l.length := by omega
    have hxi := hx _ (List.getElem_mem hil)
    rw [m_value_compound_L2, m_value_compound_B2, if_pos (by omega), zak (by omega)]
    simp only [jn_eq]
    rw [gi_nat hil, List.drop_eq_getElem_cons hil]
    by_cases he : l[i] = []
    ·rw [if_pos he, if_pos trivial]
     exact .inr ⟨fun h => h.1 _ List.mem_cons_self he, rfl⟩
    ·have e1 : i64 ((b.length : Int) + (l[i].length : Int)) = ((b.length + l[i].length : Nat) : Int) := by rw [i64_id (by omega)]; omega
     rw [if_neg he, e1]
     by_cases hs : (131072 : Int) < ((b.length + l[i].length : Nat) : Int)
     ·rw [if_pos (decide_eq_true hs)]
      exact .inr ⟨fun h => by have := h.2; simp only [List.flatten_cons, List.length_append] at this; omega, rfl⟩
     ·rw [if_neg (fun h => hs (of_decide_eq_true h)), zak (by omega), i64_succ (by omega)]
      have hlb : (b ++ l[i]).length = b.length + l[i].length := List.length_append
      rcases ih (i + 1) n (b ++ l[i]) (by omega) (by omega) (by omega) with ⟨h1, h2, h3⟩ | ⟨h1, h2⟩
      ·refine .inl ⟨fun x h => ?_, ?_, ?_⟩
       ·rcases List.mem_cons.1 h with rfl | h
        ·exact he
        ·exact h1 x h
       ·rw [hlb] at h2; simp only [List.flatten_cons, List.length_append]; omega
       ·rw [h3, List.append_assoc, List.flatten_cons]
      ·refine .inr ⟨fun h => h1 ⟨fun x hx' => h.1 x (List.mem_cons_of_mem _ hx'), ?_⟩, h2⟩
       have := h.2
       simp only [List.flatten_cons, List.length_append] at this
       rw [hlb]; omega
  have hraw : [c] ++ [u8i ((l.length / 256 : Nat) : Int), u8i ((l.length : Nat) : Int)] ++ l.flatten = raw c l := rfl
  rcases loop _ l.length 0 FU ([c] ++ [u8i ((l.length / 256 : Nat) : Int), u8i ((l.length : Nat) : Int)]) (by omega) (by omega) (by simp) with ⟨h1, h2, h3⟩ | ⟨h1, h2⟩
  ·rw [Int.natCast_zero, List.drop_zero, hraw] at h3
   rw [List.drop_zero] at h1 h2
   rw [h3, indexFunc_eq m_value_compound_1 (fun x => !vldB x) (fun x => by unfold m_value_compound_1; rw [vValid, zai]) l (by omega), zai]
   cases hall : l.any (fun x => !vldB x) with
   | true =>
    rw [if_neg (by simp), cmpd_no]
    intro h
    obtain ⟨x, hx, hv⟩ := List.any_eq_true.1 hall
    rw [vldB_iff.2 (h.2.1 x hx)] at hv; cases hv
   | false =>
    have hv : ∀ x ∈ l, Vd x := fun x hx => by
     have := List.any_eq_false.1 hall x hx
     simp at this; exact vldB_iff.1 this
    rw [if_pos (show (!false) = true from rfl), vChecked, zai]
    by_cases hr : Vd (raw c l)
    ·rw [if_pos (vldB_iff.2 hr), cmpd_yes ⟨by omega, hv, hr⟩]
    ·rw [if_neg (fun h => hr (vldB_iff.1 h)), cmpd_no (fun h => hr h.2.2)]
  ·rw [Int.natCast_zero] at h2
   rw [h2, cmpd_no]
   intro h
   rw [List.drop_zero] at h1
   refine h1 ⟨fun x hx => (h.2.1 x hx).ne, ?_⟩
   have := h.2.2.2
   rw [raw_len] at this
   simp; simp at this; omega
theorem rCompound (c : UInt8) (hc : 3 ≤ c.toNat ∧ c.toNat ≤ 9) (l : List (List UInt8)) (hv : ∀ x ∈ l, Vd x) : m_ref9_compound (c.toNat : Int) l = some (cmpd c l) := by
 have hFU := FU_ge
 unfold m_ref9_compound
 by_cases hl : (65535 : Int) < l.length
 ·rw [if_pos hl, cmpd_no (fun h => by have := h.1; omega)]
 ·rw [if_neg hl, u8i_toNat]
  have e8 : Int.fdiv (l.length : Int) (2 ^ min (Int.toNat 8) IntKind.i64.bits) = ((l.length / 256 : Nat) : Int) := by
   rw [show (2 : Int) ^ min (Int.toNat 8) IntKind.i64.bits = 256 from rfl, Int.fdiv_eq_ediv_of_nonneg _ (by omega)]; omega
  unfold m_ref9_two
  rw [e8, zai, zak (by simp), jn_eq]
  have hraw : [c] ++ [u8i ((l.length / 256 : Nat) : Int), u8i ((l.length : Nat) : Int)] ++ l.flatten = raw c l := rfl
  -- what is done with the bytes
  have hK : ∀ s : List UInt8, s.length ≤ 1000000 → (131072 < s.length ∨ s = raw c l) → bnd1 (m_ref9_read s 32) (fun y122 => jn (fun (x59_j123 : Bool) => if x59_j123 then (some ([] : List UInt8)) else (bnd1 (m_ref9_checked s) (fun y124 => some y124))) (fun k123 => if ¬ y122.1 = (List.length s : Int) then (k123 true) else (k123 (decide (¬ (List.length y122.2.1 : Int) = (List.length l : Int)))))) = some (if 131072 < s.length then [] else cmpd c l) := by
   intro s hs hcase
   unfold m_ref9_read m_ref9_walk
   have h := rWalk 32 (Nat.le_refl _) FU (by omega) s (by omega)
   rw [show ((32 : Nat) : Int) = 32 from rfl] at h
   simp only [jn_eq, rChecked, zai]
   by_cases hlong : 131072 < s.length
   ·rw [if_pos hlong]
    have hno : vldB s = false := vldB_no (fun h => by have := h.2; omega)
    rcases h with ⟨w, r, d, e, hv', h⟩ | ⟨_, h⟩
    ·rw [h, zai, zai, hno]
     simp only []
     split
     ·rfl
     ·split <;> rfl
    ·rw [h, zai, zai, hno]
     simp only []
     split
     ·rfl
     ·split <;> rfl
   ·have hs' : s = raw c l := hcase.resolve_left hlong
    rw [if_neg hlong]
    rcases h with ⟨w, r, d, e, hv', h⟩ | ⟨hno, h⟩
    ·rw [h, zai, zai]
     simp only []
     by_cases hr : r = []
     ·subst hr
      rw [List.append_nil] at e
      subst e
      have hvr : Vd (raw c l) := by rw [← hs']; exact ⟨hv', by omega⟩
      rw [if_neg (fun h => h rfl), hs', prt_raw hc (by omega) hv, if_neg (by simp), if_pos (vldB_iff.2 hvr), cmpd_yes ⟨by omega, hv, hvr⟩]
     ·have hlr : 0 < r.length := List.length_pos_iff.2 hr
      rw [if_pos (by rw [e]; simp; omega), if_pos trivial, cmpd_no]
      intro hh
      have := (hv'.sh.uniq hh.2.2.1.sh r [] (by rw [List.append_nil, ← e, hs'])).2
      exact hr this
    ·rw [h, zai, zai]
     simp only []
     have h3 : 3 ≤ s.length := by rw [hs', raw_len]; omega
     rw [if_pos (by omega), if_pos trivial, cmpd_no (fun hh => hno s [] (by simp) (by rw [hs']; exact hh.2.2.1))]
  have loop : ∀ (K : List UInt8 → Option (List UInt8)) (m i n : Nat) (b : List UInt8), i + m = l.length → m < n → b.length ≤ 262144 →
    (∃ s, s.length ≤ 262144 ∧ (131072 < s.length ∨ s = b ++ (l.drop i).flatten) ∧ (b.length ≤ s.length) ∧ (131072 < s.length → 131072 < (b ++ (l.drop i).flatten).length) ∧ m_ref9_compound_L2 l K n b i = K s) ∨ (131072 < (b ++ (l.drop i).flatten).length ∧ m_ref9_compound_L2 l K n b i = some []) := by
   intro K m
   induction m with
   | zero =>
    intro i n b hi hn hb
    obtain ⟨n, rfl⟩ : ∃ k, n = k + 1 := ⟨n - 1, by omega⟩
    rw [List.drop_eq_nil_of_le (by omega)]
    refine .inl ⟨b, hb, .inr (by simp), Nat.le_refl _, fun h => by simpa using h, ?_⟩
    rw [m_ref9_compound_L2, m_ref9_compound_B2, if_neg (by omega)]
   | succ m ih =>
    intro i n b hi hn hb
    obtain ⟨n, rfl⟩ : ∃ k, n = k + 1 := ⟨n - 1, by omega⟩
    have hil : i < l.length := by omega
    have hvi := hv _ (List.getElem_mem hil)
    rw [m_ref9_compound_L2, m_ref9_compound_B2, if_pos (by omega)]
    simp only [jn_eq]
    rw [zak (by omega), gi_nat hil, List.drop_eq_getElem_cons hil, if_neg hvi.ne]
    by_cases hs : (131072 : Int) < (b.length : Int)
    ·rw [if_pos (decide_eq_true hs)]
     exact .inr ⟨by simp; omega, rfl⟩
    ·have hvl := hvi.2
     rw [if_neg (fun h => hs (of_decide_eq_true h)), zak (by omega), zak (by omega), i64_succ (by omega)]
     have hlb : (b ++ l[i]).length = b.length + l[i].length := List.length_append
     have hap : (b ++ l[i]) ++ (l.drop (i + 1)).flatten = b ++ (l[i] :: l.drop (i + 1)).flatten := by simp only [List.flatten_cons, List.append_assoc]
     rcases ih (i + 1) n (b ++ l[i]) (by omega) (by omega) (by omega) with ⟨s, h1, h2, h3, h4, h5⟩ | ⟨h1, h2⟩
     ·rw [hap] at h2 h4
      exact .inl ⟨s, h1, h2, by omega, h4, h5⟩
     ·rw [hap] at h1
      exact .inr ⟨h1, h2⟩
  rcases loop _ l.length 0 FU ([c] ++ [u8i ((l.length / 256 : Nat) : Int), u8i ((l.length : Nat) : Int)]) (by omega) (by omega) (by simp) with ⟨s, h1, h2, _, h4, h5⟩ | ⟨h1, h2⟩
  ·rw [Int.natCast_zero] at h5
   rw [List.drop_zero, hraw] at h2 h4
   rw [h5, hK s (by omega) h2]
   split
   ·rename_i hlong
    have := h4 hlong
    rw [cmpd_no (fun h => by have := h.2.2.2; omega)]
   ·rfl
  ·rw [Int.natCast_zero] at h2
   rw [List.drop_zero, hraw] at h1
   rw [h2, cmpd_no (fun h => by have := h.2.2.2; omega)]
theorem rAll (l : List (List UInt8)) (hl : l.length ≤ 1099511627776) : m_ref9_all l = some (l.all vldB) := by
 unfold m_ref9_all
 rw [jn_eq]
 have h := loop_all l (by omega) (fun n (_ : Unit) i => m_ref9_all_L2 l (fun _ => some true) n i) (fun s x k => if !vldB x then some false else k s) (fun _ => some true) (fun n s i hi => by
   show m_ref9_all_L2 l _ (n + 1) i = _
   rw [m_ref9_all_L2, m_ref9_all_B2]
   simp (disch := omega) only [if_pos, zak, gi_nat, rValid, zai, i64_succ]) (fun n s => by
   show m_ref9_all_L2 l _ (n + 1) _ = _
   rw [m_ref9_all_L2, m_ref9_all_B2, if_neg (by omega)]) ()
 refine h.trans ?_
 rw [foldK_any]
 cases h : l.all vldB with
 | true => rw [if_neg]; simp at h ⊢; exact h
 | false => rw [if_pos]; simp at h ⊢; exact h
theorem rMake (c : UInt8) (hc : 3 ≤ c.toNat ∧ c.toNat ≤ 9) (l : List (List UInt8)) (hl : l.length ≤ 1099511627776) : m_ref9_Make (c.toNat : Int) l = some (cmpd c l) := by
 unfold m_ref9_Make
 rw [rAll l hl, zai]
 cases h : l.all vldB with
 | true =>
  simp at h
  rw [if_neg (by simp), rCompound c hc l (fun x hx => vldB_iff.1 (h x hx)), zai]
 | false =>
  rw [if_pos (show (!false) = true from rfl), cmpd_no]
  intro hh
  simp at h
  obtain ⟨x, hx, hv⟩ := h
  rw [vldB_iff.2 (hh.2.1 x hx)] at hv; cases hv
noncomputable def setW (l : List (List UInt8)) : List UInt8 := cmpd 5 (sortW l)
theorem vSet (l : List (List UInt8)) (hl : l.length ≤ 10000000) (hx : ∀ x ∈ l, x.length ≤ 1099511627776) : m_value_Set l = some (setW l) := by
 unfold m_value_Set setW
 have := vCompound 5 (sortW l) (fun x h => hx x ((sortW_spec l).2.1 x |>.1 h))
 rw [show ((5 : UInt8).toNat : Int) = 5 from rfl] at this
 rw [vSort l (by omega), zai, this, zai]
theorem rSet (l : List (List UInt8)) (hl : l.length ≤ 10000000000) : m_ref9_Set l = some (setW l) := by
 unfold m_ref9_Set setW
 rw [rAll l (by omega), zai]
 have hmem := (sortW_spec l).2.1
 cases h : l.all vldB with
 | true =>
  simp at h
  have := rCompound 5 (by decide) (sortW l) (fun x hx => vldB_iff.1 (h x ((hmem x).1 hx)))
  rw [show ((5 : UInt8).toNat : Int) = 5 from rfl] at this
  rw [if_neg (by simp), rSort l hl, zai, this, zai]
 | false =>
  rw [if_pos (show (!false) = true from rfl), cmpd_no]
  intro hh
  simp at h
  obtain ⟨x, hx, hv⟩ := h
  rw [vldB_iff.2 (hh.2.1 x ((hmem x).2 hx))] at hv; cases hv
end Go.Proofs.YtjlbdhicabgliaaGreat
/- Sets of values: elements, merging, bounded results. -/
namespace Go.Proofs.YtjlbdhicabgliaaGreat
attribute [local irreducible] FU

theorem cmpC_val {a b : List UInt8} (ha : Vd a) (hb : Vd b) : cmpC a b = cmpW a b := by unfold cmpC; rw [if_pos ⟨vldB_iff.2 ha, vldB_iff.2 hb⟩]
theorem flat_mem {ps : List (List UInt8)} {p : List UInt8} (h : p ∈ ps) : p.length ≤ ps.flatten.length := by
 obtain ⟨a, b, rfl⟩ := List.append_of_mem h
 simp; omega
theorem flatV_len {ps : List (List UInt8)} (h : ∀ p ∈ ps, p ≠ []) : ps.length ≤ ps.flatten.length := by
 induction ps with
 | nil => simp
 | cons p ps ih =>
  have := ih (fun q hq => h q (List.mem_cons_of_mem _ hq))
  have := List.length_pos_iff.2 (h p (by simp))
  simp only [List.flatten_cons, List.length_append, List.length_cons]; omega
theorem prtW_spec (v : List UInt8) : (∀ x ∈ prtW v, Vd x) ∧ (prtW v).length ≤ 65535 ∧ (prtW v).flatten.length ≤ v.length ∧ (prtW v).flatten.length ≤ 131072 ∧ (3 ≤ kindW v → kindW v ≤ 9 → formedB (gi v 0) (prtW v) = true ∧ v = raw (gi v 0) (prtW v)) := by
 unfold prtW kindW
 cases h0 : vldB v with
 | false => simp
 | true =>
  obtain ⟨hv, hl⟩ := vldB_iff.1 h0
  simp only [if_true]
  cases hv with
  | int k b h => simp [prt, gi_0]
  | bool k b h => simp [prt, gi_0]
  | name k h l => simp [prt, gi_0]
  | comp k c h l ps hc hn hp hf =>
   rw [prt_comp hc hn (fun p hp' => (hp p hp').sh) (by omega), gi_0]
   simp only [List.length_cons] at hl ⊢
   have hh := UInt8.toNat_lt h
   have hh' := UInt8.toNat_lt l
   refine ⟨fun x hx => ⟨(hp x hx).mono, by have := flat_mem hx; omega⟩, by omega, by omega, by omega, fun _ _ => ⟨hf, ?_⟩⟩
   have e1 : u8i ((ps.length / 256 : Nat) : Int) = h := u8_inj (by rw [u8i_nat]; omega)
   have e2 : u8i ((ps.length : Nat) : Int) = l := u8_inj (by rw [u8i_nat]; omega)
   unfold raw
   rw [e1, e2]
noncomputable def isSet (v : List UInt8) : Bool := decide (kindW v = 5)
theorem foldK_all {α β ρ : Type} (p : α → Bool) (g : α → β) (R : Option ρ) (K : List β → Option ρ) : ∀ (l : List α) (r : List β), r.length + l.length ≤ 137438953472 →
  foldK (fun r x k => if p x then need (List.length r + 1 ≤ 137438953472) (k (r ++ [g x])) else R) K l r = if l.all p then K (r ++ l.map g) else R
 | [], r, _ => by simp [foldK]
 | x :: xs, r, h => by
  simp only [List.length_cons] at h
  rw [foldK]
  cases hp : p x with
  | true => simp only [if_true]; rw [zak (by omega), foldK_all p g R K xs _ (by simp; omega)]; simp [hp]
  | false => simp [hp]
theorem vElements (l : List (List UInt8)) (hl : l.length ≤ 137438953472) : m_finset_elements l = some (if l.all isSet then (l.map prtW, 0) else ([], 6)) := by
 unfold m_finset_elements
 rw [jn_eq]
 have h := loop_all l (by omega) (fun n (s : List (List (List UInt8))) i => m_finset_elements_L2 l (fun x => some (x, 0)) n s i) (fun r x k => if isSet x then need (List.length r + 1 ≤ 137438953472) (k (r ++ [prtW x])) else some ([], 6)) (fun x => some (x, 0)) (fun n s i hi => by
   show m_finset_elements_L2 l _ (n + 1) _ _ = _
   rw [m_finset_elements_L2, m_finset_elements_B2, if_pos (by omega), zak (by omega), gi_nat hi, vKind, zai]
   by_cases hk : kindW l[i] = 5
   ·rw [if_neg (fun h => h hk), vPartsW, zai, if_pos (show isSet l[i] = true from decide_eq_true hk), i64_succ (by omega)]; rfl
   ·rw [if_pos hk, if_neg (show ¬ isSet l[i] = true from fun h => hk (of_decide_eq_true h))]) (fun n s => by
   show m_finset_elements_L2 l _ (n + 1) _ _ = _
   rw [m_finset_elements_L2, m_finset_elements_B2, if_neg (by omega)]) []
 refine h.trans ?_
 rw [foldK_all _ _ _ _ _ _ (by simp; omega)]
 split <;> simp
theorem rSets (l : List (List UInt8)) (hl : l.length ≤ 137438953472) : m_ref9_sets l = some (l.all isSet) := by
 unfold m_ref9_sets
 rw [jn_eq]
 have h := loop_all l (by omega) (fun n (_ : Unit) i => m_ref9_sets_L2 l (fun _ => some true) n i) (fun s x k => if !isSet x then some false else k s) (fun _ => some true) (fun n s i hi => by
   show m_ref9_sets_L2 l _ (n + 1) _ = _
   rw [m_ref9_sets_L2, m_ref9_sets_B2, if_pos (by omega), zak (by omega), gi_nat hi, rKind, zai]
   by_cases hk : kindW l[i] = 5
   ·rw [if_neg (fun h => h hk), if_neg (by simp [isSet, hk]), i64_succ (by omega)]
   ·rw [if_pos hk, if_pos (by simp [isSet, hk])]) (fun n s => by
   show m_ref9_sets_L2 l _ (n + 1) _ = _
   rw [m_ref9_sets_L2, m_ref9_sets_B2, if_neg (by omega)]) ()
 refine h.trans ?_
 rw [foldK_any]
 cases h : l.all isSet with
 | true => rw [if_neg]; simp at h ⊢; exact h
 | false => rw [if_pos]; simp at h ⊢; exact h
theorem rHas (l : List (List UInt8)) (v : List UInt8) (hl : l.length ≤ 137438953472) : m_ref9_has l v = some (decide (v ∈ l)) := by
 unfold m_ref9_has
 rw [jn_eq]
 have h := loop_all l (by omega) (fun n (_ : Unit) i => m_ref9_has_L2 l v (fun _ => some false) n i) (fun s x k => if decide (x = v) then some true else k s) (fun _ => some false) (fun n s i hi => by
   show m_ref9_has_L2 l v _ (n + 1) _ = _
   rw [m_ref9_has_L2, m_ref9_has_B2, if_pos (by omega), zak (by omega), gi_nat hi, i64_succ (by omega)]
   by_cases hk : l[i] = v
   ·rw [if_pos hk, if_pos (decide_eq_true hk)]
   ·rw [if_neg hk, if_neg (fun h => hk (of_decide_eq_true h))]) (fun n s => by
   show m_ref9_has_L2 l v _ (n + 1) _ = _
   rw [m_ref9_has_L2, m_ref9_has_B2, if_neg (by omega)]) ()
 refine h.trans ?_
 rw [foldK_any]
 by_cases hm : v ∈ l
 ·rw [if_pos (by simpa using hm), decide_eq_true hm]
 ·rw [if_neg (by simpa using hm), decide_eq_false hm]

theorem sortW_id {l : List (List UInt8)} (h : SLC l) : sortW l = l := slc_ext (sortW_spec l).1 h (sortW_spec l).2.1
theorem sortW_congr {l l' : List (List UInt8)} (h : ∀ x, x ∈ l ↔ x ∈ l') : sortW l = sortW l' :=
 slc_ext (sortW_spec l).1 (sortW_spec l').1 (fun x => by rw [(sortW_spec l).2.1, (sortW_spec l').2.1, h])
noncomputable def bndW (l : List (List UInt8)) : List UInt8 × Int := if 4096 < (sortW l).length ∨ setW l = [] then ([], 9) else (setW l, 0)
theorem setW_congr {l l' : List (List UInt8)} (h : ∀ x, x ∈ l ↔ x ∈ l') : setW l = setW l' := by unfold setW; rw [sortW_congr h]
theorem bndW_congr {l l' : List (List UInt8)} (h : ∀ x, x ∈ l ↔ x ∈ l') : bndW l = bndW l' := by unfold bndW; rw [sortW_congr h, setW_congr h]
theorem setW_sort (l : List (List UInt8)) : setW (sortW l) = setW l := by unfold setW; rw [sortW_id (sortW_spec l).1]
theorem rBounded (l : List (List UInt8)) (hl : l.length ≤ 10000000) : m_ref9_bounded l = some (bndW l) := by
 unfold m_ref9_bounded bndW
 have := (sortW_spec l).2.2
 rw [rSort l (by omega), zai]
 by_cases h : 4096 < (sortW l).length
 ·rw [if_pos (by omega), if_pos (.inl h)]
 ·rw [if_neg (by omega), rSet _ (by omega), zai, setW_sort]
  by_cases h' : setW l = []
  ·rw [if_pos h', if_pos (.inr h')]
  ·rw [if_neg h', if_neg (by simp [h, h'])]
theorem vSized (n : Nat) (v : List UInt8) : m_finset_sized n v = some (if 4096 < n ∨ v = [] then ([], 9) else (v, 0)) := by
 unfold m_finset_sized
 simp only [jn_eq]
 by_cases h : 4096 < n
 ·rw [if_pos (by omega), if_pos trivial, if_pos (.inl h)]
 ·rw [if_neg (by omega)]
  by_cases h' : v = []
  ·rw [if_pos (decide_eq_true h'), if_pos (.inr h')]
  ·rw [if_neg (fun h => h' (of_decide_eq_true h)), if_neg (by simp [h, h'])]
theorem vSetF (l : List (List UInt8)) (hl : l.length ≤ 10000000) (hx : ∀ x ∈ l, x.length ≤ 1099511627776) (h : SLC l ∨ l.length ≤ 4096) : m_finset_set l = some (bndW l) := by
 unfold m_finset_set bndW
 have hs := (sortW_spec l).2.2
 by_cases hc : 4096 < l.length
 ·have : sortW l = l := sortW_id (h.resolve_right (by omega))
  rw [if_pos (by omega), if_pos (.inl (by rw [this]; exact hc))]
 ·rw [if_neg (by omega), vSet l hl hx, zai, vSized, zai]
  have h1 : ¬ 4096 < (sortW l).length := by omega
  by_cases h' : setW l = []
  ·rw [if_pos (.inr h'), if_pos (.inr h')]
  ·rw [if_neg (by simp [hc, h']), if_neg (by simp [h1, h'])]

def MS (F : Bool → Bool → Bool) (A B r : List (List UInt8)) : Prop := SLC r ∧ ∀ y, y ∈ r ↔ F (decide (y ∈ A)) (decide (y ∈ B)) = true ∧ (y ∈ A ∨ y ∈ B)
theorem MS.push {F : Bool → Bool → Bool} {x : List UInt8} {A B r : List (List UInt8)} (fa fb : Bool) (hor : (fa || fb) = true) (hxA : ∀ y ∈ A, cmpC x y < 0) (hxB : ∀ y ∈ B, cmpC x y < 0) (h : MS F A B r) :
  MS F ((if fa then [x] else []) ++ A) ((if fb then [x] else []) ++ B) ((if F fa fb then [x] else []) ++ r) := by
 obtain ⟨hr, hm⟩ := h
 have hA : x ∉ A := fun hh => by have := hxA x hh; rw [cmpC_self] at this; omega
 have hB : x ∉ B := fun hh => by have := hxB x hh; rw [cmpC_self] at this; omega
 refine ⟨?_, fun y => ?_⟩
 ·split
  ·refine List.pairwise_cons.2 ⟨fun y hy => ?_, hr⟩
   rcases ((hm y).1 hy).2 with h | h
   ·exact hxA y h
   ·exact hxB y h
  ·exact hr
 ·by_cases hy : y = x
  ·subst hy
   have hnr : y ∉ r := fun hh => by rcases ((hm y).1 hh).2 with h | h; exact hA h; exact hB h
   cases fa <;> cases fb <;> simp_all <;> split <;> simp_all
  ·have e1 : (y ∈ (if fa = true then [x] else []) ++ A) ↔ y ∈ A := by cases fa <;> simp [hy]
   have e2 : (y ∈ (if fb = true then [x] else []) ++ B) ↔ y ∈ B := by cases fb <;> simp [hy]
   have e3 : (y ∈ (if F fa fb = true then [x] else []) ++ r) ↔ y ∈ r := by cases F fa fb <;> simp [hy]
   rw [e3, hm]
   simp only [e1, e2]
theorem nodup_len {α : Type} : ∀ {r l : List α}, r.Nodup → (∀ x ∈ r, x ∈ l) → r.length ≤ l.length
 | [], _, _, _ => by simp
 | x :: r, l, hn, hs => by
  obtain ⟨s, t, rfl⟩ := List.append_of_mem (hs x (by simp))
  obtain ⟨h1, h2⟩ := List.nodup_cons.1 hn
  have := nodup_len (r := r) (l := s ++ t) h2 (fun y hy => by
   have h := hs y (List.mem_cons_of_mem _ hy)
   have hne : y ≠ x := fun e => h1 (e ▸ hy)
   simpa [hne] using h)
  simp only [List.length_append, List.length_cons] at this ⊢
  omega
theorem slc_nodup {r : List (List UInt8)} (h : SLC r) : r.Nodup := h.imp (fun {a b} hab he => by subst he; rw [cmpC_self] at hab; omega)
theorem MS.len {F : Bool → Bool → Bool} {A B r : List (List UInt8)} (h : MS F A B r) : r.length ≤ A.length + B.length := by
 have := nodup_len (l := A ++ B) (slc_nodup h.1) (fun x hx => by rcases ((h.2 x).1 hx).2 with h | h <;> simp [h])
 simpa using this
end Go.Proofs.YtjlbdhicabgliaaGreat
/- Operations on sets: program and reference agree. -/
namespace Go.Proofs.YtjlbdhicabgliaaGreat
attribute [local irreducible] FU

noncomputable def meW (v a : List UInt8) : Bool × Int := if vldB v = true ∧ isSet a = true then (decide (v ∈ prtW a), 0) else (false, 6)
theorem rMember (v a : List UInt8) : m_ref9_Member v a = some (meW v a) := by
 unfold m_ref9_Member meW
 have hl1 := (prtW_spec a).2.1
 rw [jn_eq, rValid, zai]
 simp only [rSets [a] (by simp), zai, rPartsW, rHas _ v (show (prtW a).length ≤ 137438953472 by omega)]
 cases h1 : vldB v <;> cases h2 : isSet a <;> simp [h2]
end Go.Proofs.YtjlbdhicabgliaaGreat
/- Operations on sets of sets and maps: program and reference agree. -/
namespace Go.Proofs.YtjlbdhicabgliaaGreat
attribute [local irreducible] FU

end Go.Proofs.YtjlbdhicabgliaaGreat
/- Subsets and keys: program and reference agree. -/
namespace Go.Proofs.YtjlbdhicabgliaaGreat
attribute [local irreducible] FU

theorem u64_nat {n : Nat} (h : n ≤ 4611686018427387904) : IntKind.u64.wrap (n : Int) = (n : Int) := by
 unfold IntKind.wrap IntKind.bits IntKind.signed
 simp; omega
end Go.Proofs.YtjlbdhicabgliaaGreat
/- Integers as values; sets of them; the check of awake. -/
namespace Go.Proofs.YtjlbdhicabgliaaGreat
attribute [local irreducible] FU

def byD (w : Nat) : Nat → List UInt8
 | 0 => []
 | k + 1 => u8i ((w / 2 ^ (8 * k) : Nat) : Int) :: byD w k
theorem byD_len (w : Nat) : ∀ k, (byD w k).length = k
 | 0 => rfl
 | k + 1 => by simp [byD, byD_len w k]
theorem beNat_cons (b : UInt8) (l : List UInt8) : beNat (b :: l) = b.toNat * 256 ^ l.length + beNat l := by
 have key : ∀ (l : List UInt8) (a : Nat), l.foldl (fun n b => n * 256 + b.toNat) a = a * 256 ^ l.length + beNat l := by
  intro l
  induction l with
  | nil => intro a; simp [beNat]
  | cons x l ih =>
   intro a
   have e : beNat (x :: l) = x.toNat * 256 ^ l.length + beNat l := by
    have := ih (0 * 256 + x.toNat)
    simpa [beNat] using this
   rw [List.foldl_cons, ih, e, List.length_cons, Nat.pow_succ, Nat.add_mul, Nat.mul_assoc, Nat.mul_comm 256]
   omega
 have := key l b.toNat
 simpa [beNat] using this
theorem pow8 (k : Nat) : 256 ^ k = 2 ^ (8 * k) := by rw [Nat.pow_mul]
theorem beNat_byD (w : Nat) : ∀ k, beNat (byD w k) = w % 2 ^ (8 * k)
 | 0 => by simp [byD, beNat, Nat.mod_one]
 | k + 1 => by
  rw [byD, beNat_cons, byD_len, u8i_nat, beNat_byD w k, pow8, show 8 * (k + 1) = 8 * k + 8 by omega, Nat.pow_add, Nat.mod_mul, Nat.mul_comm, Nat.add_comm, Nat.mul_comm]
def wOf (n : Int) : Nat := (n % 18446744073709551616).toNat
theorem u64_mod (x : Int) : IntKind.u64.wrap x = (wOf x : Int) := by rw [wrap_u64]; unfold wOf; omega
theorem fdiv_pow (w k : Nat) (hk : 8 * k ≤ 64) : Int.fdiv (w : Int) (2 ^ min (Int.toNat ((8 * k : Nat) : Int)) IntKind.u64.bits) = ((w / 2 ^ (8 * k) : Nat) : Int) := by
 rw [Int.toNat_natCast, show IntKind.u64.bits = 64 from rfl, Nat.min_eq_left hk]
 have : (2 : Int) ^ (8 * k) = ((2 ^ (8 * k) : Nat) : Int) := by simp
 rw [this, Int.fdiv_eq_ediv_of_nonneg _ (Int.natCast_nonneg _)]
 rfl
noncomputable def intW (n : Int) : List UInt8 := 1 :: byD (wOf n) 8
theorem set_byD (w k : Nat) (hk : k < 8) : List.set (List.replicate (8 - k) (0 : UInt8) ++ byD w k) (7 - k) (u8i ((w / 2 ^ (8 * k) : Nat) : Int)) = List.replicate (8 - (k + 1)) (0 : UInt8) ++ byD w (k + 1) := by
 rw [show 8 - k = (8 - (k + 1)) + 1 by omega, List.replicate_succ', List.append_assoc, List.set_append_right _ _ (by simp)]
 have : 7 - k - (List.replicate (8 - (k + 1)) (0 : UInt8)).length = 0 := by simp
 rw [this]; rfl
theorem rEight_loop (n0 : Int) (K : List UInt8 → Option (List UInt8)) : ∀ (m k n : Nat), k + m = 8 → m < n → m_ref9_eight_L2 n0 K n (List.replicate (8 - k) (0 : UInt8) ++ byD (wOf n0) k) k = K (byD (wOf n0) 8) := by
 intro m
 induction m with
 | zero =>
  intro k n hk hn
  obtain ⟨n, rfl⟩ : ∃ q, n = q + 1 := ⟨n - 1, by omega⟩
  obtain rfl : k = 8 := by omega
  rw [m_ref9_eight_L2, m_ref9_eight_B2, if_neg (by omega)]
  simp
 | succ m ih =>
  intro k n hk hn
  obtain ⟨n, rfl⟩ : ∃ q, n = q + 1 := ⟨n - 1, by omega⟩
  have e1 : i64 (8 * (k : Int)) = ((8 * k : Nat) : Int) := by rw [i64_id (by omega)]; omega
  have e2 : i64 (7 - (k : Int)) = ((7 - k : Nat) : Int) := by rw [i64_id (by omega)]; omega
  rw [m_ref9_eight_L2, m_ref9_eight_B2, if_pos (by omega), e1, u64_nat (by omega), zak (by omega), e2, zak (by simp [byD_len]; omega), Int.toNat_natCast (7 - k), u64_mod, fdiv_pow _ k (by omega), i64_succ (by omega)]
  rw [set_byD (wOf n0) k (by omega)]
  exact ih (k + 1) n (by omega) (by omega)
theorem rInt (n : Int) : m_ref9_Int n = some (intW n) := by
 have hFU := FU_ge
 unfold m_ref9_Int m_ref9_eight
 have h := rEight_loop n (fun x => some x) 8 0 FU (by omega) (by omega)
 rw [Int.natCast_zero] at h
 rw [zak (by omega), jn_eq]
 rw [show List.replicate (Int.toNat 8) (0 : UInt8) = List.replicate (8 - 0) (0 : UInt8) ++ byD (wOf n) 0 from rfl, h, zai, zak (by simp [byD_len])]
 rfl
theorem intW_IsV (n : Int) (k : Nat) : IsV (k + 1) (intW n) := .int k _ (byD_len _ 8)
theorem intW_len (n : Int) : (intW n).length = 9 := by simp [intW, byD_len]
theorem numV_intW {n : Int} (h : -9223372036854775808 ≤ n ∧ n ≤ 9223372036854775807) : numV (intW n) = n := by
 unfold numV intW
 rw [List.drop_succ_cons, List.drop_zero, beNat_byD]
 have e : wOf n % 2 ^ (8 * 8) = wOf n := Nat.mod_eq_of_lt (by unfold wOf; omega)
 rw [e]
 unfold wOf i64
 rw [show (((n % 18446744073709551616).toNat : Nat) : Int) = n % 18446744073709551616 by omega]
 unfold IntKind.wrap IntKind.bits IntKind.signed
 simp; split <;> omega
theorem intW_inj {a b : Int} (ha : -9223372036854775808 ≤ a ∧ a ≤ 9223372036854775807) (hb : -9223372036854775808 ≤ b ∧ b ≤ 9223372036854775807) (h : intW a = intW b) : a = b := by
 rw [← numV_intW ha, ← numV_intW hb, h]

theorem flat_le {l : List (List UInt8)} {c : Nat} (h : ∀ x ∈ l, x.length ≤ c) : l.flatten.length ≤ c * l.length := by
 induction l with
 | nil => simp
 | cons x l ih =>
  have h1 := h x (by simp)
  have h2 := ih (fun y hy => h y (by simp [hy]))
  simp only [List.flatten_cons, List.length_append, List.length_cons, Nat.mul_add, Nat.mul_one]
  omega
theorem SLC_ascB : ∀ {ps : List (List UInt8)}, (∀ p ∈ ps, Vd p) → SLC ps → ascB ps = true
 | [], _, _ => rfl
 | [_], _, _ => rfl
 | x :: y :: t, hv, h => by
  obtain ⟨h1, h2⟩ := List.pairwise_cons.1 h
  have := h1 y (by simp)
  rw [cmpC_val (hv x (by simp)) (hv y (by simp))] at this
  rw [ascB, SLC_ascB (fun p hp => hv p (by simp [hp])) h2, decide_eq_true this]; rfl
theorem set_ok {l : List (List UInt8)} {k : Nat} (hk : k ≤ 31) (hv : ∀ x ∈ l, IsV k x) (hl : (sortW l).length ≤ 65535) (hs : 3 + (sortW l).flatten.length ≤ 131072) :
  setW l = raw 5 (sortW l) ∧ IsV (k + 1) (setW l) ∧ prtW (setW l) = sortW l ∧ isSet (setW l) = true ∧ setW l ≠ [] ∧ (setW l).length ≤ 131072 := by
 have hm := (sortW_spec l).2.1
 have hV : ∀ x ∈ sortW l, Vd x := fun x hx => ⟨(hv x ((hm x).1 hx)).le (by omega), by have := flat_mem hx; omega⟩
 have hI : IsV (k + 1) (raw 5 (sortW l)) := .comp k 5 _ _ (sortW l) (by decide) (raw_count hl) (fun x hx => hv x ((hm x).1 hx)) (by
  have := SLC_ascB hV (sortW_spec l).1
  simpa [formedB] using this)
 have hVr : Vd (raw 5 (sortW l)) := ⟨hI.le (by omega), by rw [raw_len]; omega⟩
 have he : setW l = raw 5 (sortW l) := cmpd_yes ⟨hl, hV, hVr⟩
 have hvb := vldB_iff.2 hVr
 rw [he]
 refine ⟨rfl, hI, ?_, ?_, by simp [raw], hVr.2⟩
 ·unfold prtW; rw [if_pos hvb]; exact prt_raw (by decide) hl hV
 ·unfold isSet kindW; rw [if_pos hvb]; rfl
theorem bnd_ok {l : List (List UInt8)} (h : (sortW l).length ≤ 4096) (hn : setW l ≠ []) : bndW l = (setW l, 0) := by
 unfold bndW; rw [if_neg]; rintro (h' | h')
 ·omega
 ·exact hn h'
theorem sort_nodup {l : List (List UInt8)} (h : l.Nodup) : (sortW l).length = l.length :=
 Nat.le_antisymm (sortW_spec l).2.2 (nodup_len h (fun x hx => ((sortW_spec l).2.1 x).2 hx))

noncomputable def runW (a : Int) (m : Nat) : List (List UInt8) := (List.range m).map (fun i : Nat => intW (a + i))
theorem runW_len (a : Int) (m : Nat) : (runW a m).length = m := by simp [runW]
theorem runW_succ (a : Int) (m : Nat) : runW a (m + 1) = intW a :: runW (a + 1) m := by
 unfold runW
 rw [List.range_succ_eq_map, List.map_cons, List.map_map]
 simp only [Int.natCast_zero, Int.add_zero]
 congr 1
 refine List.map_congr_left fun i _ => ?_
 show intW (a + ((i + 1 : Nat) : Int)) = intW (a + 1 + (i : Int))
 congr 1; omega
theorem runW_nodup {a : Int} {m : Nat} (h : -9223372036854775808 ≤ a ∧ a + m ≤ 9223372036854775808) : (runW a m).Nodup := by
 refine List.pairwise_map.2 (List.Pairwise.imp_of_mem ?_ List.nodup_range)
 intro i j hi hj hne he
 simp at hi hj
 have := intW_inj (a := a + i) (b := a + j) (by omega) (by omega) he
 omega
theorem runW_spec (a : Int) (m : Nat) : (∀ x ∈ runW a m, x.length ≤ 9) ∧ ∀ k, ∀ x ∈ runW a m, IsV (k + 1) x := by
 refine ⟨fun x hx => ?_, fun k x hx => ?_⟩
 ·obtain ⟨i, _, rfl⟩ := List.mem_map.1 hx; rw [intW_len]; omega
 ·obtain ⟨i, _, rfl⟩ := List.mem_map.1 hx; exact intW_IsV _ _
theorem run_set {a : Int} {m : Nat} (h : -9223372036854775808 ≤ a ∧ a + m ≤ 9223372036854775808) (hm : m ≤ 4096) : bndW (runW a m) = (setW (runW a m), 0) ∧ prtW (setW (runW a m)) = sortW (runW a m) ∧ isSet (setW (runW a m)) = true ∧ (sortW (runW a m)).length = m ∧ IsV 2 (setW (runW a m)) := by
 have hn := sort_nodup (runW_nodup h)
 rw [runW_len] at hn
 have hfl : (sortW (runW a m)).flatten.length ≤ 9 * (sortW (runW a m)).length := flat_le (fun x hx => (runW_spec a m).1 x (((sortW_spec _).2.1 x).1 hx))
 obtain ⟨b1, b2, b3, b4, b5, _⟩ := set_ok (l := runW a m) (k := 1) (by omega) ((runW_spec a m).2 0) (by omega) (by omega)
 exact ⟨bnd_ok (by omega) b5, b3, b4, hn, b2⟩
end Go.Proofs.YtjlbdhicabgliaaGreat
/- The generator of values always returns. -/
namespace Go.Proofs.YtjlbdhicabgliaaGreat
attribute [local irreducible] FU

def GS (l : List Int) (i : Int) : Prop := 0 ≤ i ∧ i ≤ l.length ∧ l.length ≤ 9223372036854775807
theorem gNext {l : List Int} {i : Int} (h : GS l i) {n : Int} (h0 : 0 < n) (h1 : n ≤ 1000000) : ∃ y i', zbd (l, i) n = some (y, (l, i')) ∧ GS l i' ∧ 0 ≤ y ∧ y < n := by
 obtain ⟨g1, g2, g3⟩ := h
 unfold zbd
 simp only []
 by_cases hc : (List.length l : Int) ≤ i
 ·rw [if_pos hc]; exact ⟨0, i, rfl, ⟨g1, g2, g3⟩, by omega, h0⟩
 ·have e : i64 (i64 (i + 1) - 1) = i := by rw [i64_id (x := i + 1) (by omega), i64_id (by omega)]; omega
  have en : IntKind.u64.wrap n = n := by rw [wrap_u64]; omega
  unfold m_help_Mod
  rw [if_neg hc, e, zak (by omega), en, zak (by omega), zai, i64_id (x := i + 1) (by omega)]
  have ha := wrap_u64 (gi l i)
  have h3 : 0 ≤ Int.tmod (IntKind.u64.wrap (gi l i)) n := Int.tmod_nonneg _ (by omega)
  have h4 : Int.tmod (IntKind.u64.wrap (gi l i)) n < n := Int.tmod_lt_of_pos _ h0
  exact ⟨_, _, rfl, ⟨by omega, by omega, g3⟩, by rw [i64_id (by omega)]; exact h3, by rw [i64_id (by omega)]; exact h4⟩
theorem gInts_loop (K : List Int → Int → List (List UInt8) → Option (List UInt8 × (List Int × Int))) : ∀ (m n : Nat) (l : List Int) (i : Int) (out : List (List UInt8)), m < n → GS l i → out.length + m ≤ 1000 → (∀ x ∈ out, ∃ k : Int, 0 ≤ k ∧ k < 6 ∧ x = intW k) →
  ∃ i' out', m_gen_Choices_Ints_L2 K n l i out m = K l i' out' ∧ GS l i' ∧ out'.length = out.length + m ∧ ∀ x ∈ out', ∃ k : Int, 0 ≤ k ∧ k < 6 ∧ x = intW k := by
 intro m
 induction m with
 | zero =>
  intro n l i out hn hg ho hx
  obtain ⟨n, rfl⟩ : ∃ q, n = q + 1 := ⟨n - 1, by omega⟩
  exact ⟨i, out, by rw [m_gen_Choices_Ints_L2, m_gen_Choices_Ints_B2, if_neg (by omega)], hg, rfl, hx⟩
 | succ m ih =>
  intro n l i out hn hg ho hx
  obtain ⟨n, rfl⟩ : ∃ q, n = q + 1 := ⟨n - 1, by omega⟩
  obtain ⟨y, i1, e1, g1, y0, y1⟩ := gNext hg (n := 6) (by omega) (by omega)
  have e2 : i64 (((m + 1 : Nat) : Int) - 1) = (m : Int) := by rw [i64_id (by omega)]; omega
  obtain ⟨i', out', h1, h2, h3, h4⟩ := ih n l i1 (out ++ [intW y]) (by omega) g1 (by simp; omega) (fun x h => by
   rcases List.mem_append.1 h with h | h
   ·exact hx x h
   ·exact ⟨y, y0, y1, List.mem_singleton.1 h⟩)
  refine ⟨i', out', ?_, h2, by rw [h3]; simp; omega, h4⟩
  rw [m_gen_Choices_Ints_L2, m_gen_Choices_Ints_B2, if_pos (by omega), e1, zai]
  simp only []
  rw [rInt, zai, zak (by simp; omega), e2, h1]
theorem gInts {l : List Int} {i : Int} (h : GS l i) : ∃ i' L, m_gen_Choices_Ints (l, i) = some (setW L, (l, i')) ∧ GS l i' ∧ L.length ≤ 4 ∧ ∀ x ∈ L, ∃ k : Int, 0 ≤ k ∧ k < 6 ∧ x = intW k := by
 have hFU := FU_ge
 unfold m_gen_Choices_Ints
 rw [jn_eq]
 obtain ⟨y, i1, e1, g1, y0, y1⟩ := gNext h (n := 5) (by omega) (by omega)
 obtain ⟨m, rfl⟩ : ∃ m : Nat, y = m := ⟨y.toNat, by omega⟩
 obtain ⟨i', L, h1, h2, h3, h4⟩ := gInts_loop (fun x0_0_j1 x0_1_j1 x3_j1 => bnd1 (m_ref9_Set x3_j1) (fun y29 => some (y29, (x0_0_j1, x0_1_j1)))) m FU l i1 [] (by omega) g1 (by simp; omega) (by simp)
 simp only []
 rw [e1, zai]
 simp only []
 simp at h3
 rw [h1, rSet L (by omega), zai]
 exact ⟨i', L, rfl, h2, by omega, h4⟩
theorem gNumber {l : List Int} {i : Int} (h : GS l i) : ∃ v i', m_gen_Choices_Number (l, i) = some (v, (l, i')) ∧ GS l i' := by
 unfold m_gen_Choices_Number
 obtain ⟨y, i1, e1, g1, y0, y1⟩ := gNext h (n := 9) (by omega) (by omega)
 obtain ⟨a, ia, ea, ga, _⟩ := gNext g1 (n := 2) (by omega) (by omega)
 obtain ⟨b, ib, eb, gb, _⟩ := gNext g1 (n := 7) (by omega) (by omega)
 simp only [e1, zai, ea, eb]
 split
 ·exact ⟨_, _, rfl, g1⟩
 ·split
  ·exact ⟨_, _, rfl, ga⟩
  ·split
   ·exact ⟨_, _, rfl, ga⟩
   ·exact ⟨_, _, rfl, gb⟩
end Go.Proofs.YtjlbdhicabgliaaGreat
/- The generator makes valid values. -/
namespace Go.Proofs.YtjlbdhicabgliaaGreat
attribute [local irreducible] FU

theorem comp_ok {c : UInt8} (hc : 3 ≤ c.toNat ∧ c.toNat ≤ 9) {l : List (List UInt8)} {k : Nat} (hk : k ≤ 31) (hv : ∀ x ∈ l, IsV k x) (hn : l.length ≤ 65535) (hl : l.flatten.length ≤ 131069) (hf : formedB c l = true) :
  cmpd c l = raw c l ∧ IsV (k + 1) (raw c l) ∧ prtW (raw c l) = l ∧ kindW (raw c l) = (c.toNat : Int) ∧ Vd (raw c l) := by
 have hV : ∀ x ∈ l, Vd x := fun x hx => ⟨(hv x hx).le (by omega), by have := flat_mem hx; omega⟩
 have hI : IsV (k + 1) (raw c l) := .comp k c _ _ l hc (raw_count hn) hv hf
 have hVr : Vd (raw c l) := ⟨hI.le (by omega), by rw [raw_len]; omega⟩
 refine ⟨cmpd_yes ⟨hn, hV, hVr⟩, hI, ?_, ?_, hVr⟩
 ·unfold prtW; rw [if_pos (vldB_iff.2 hVr)]; exact prt_raw hc hn hV
 ·unfold kindW; rw [if_pos (vldB_iff.2 hVr)]; rfl
theorem gi2_00 {α : Type} [Inhabited α] (x : α) (l : List α) : gi (x :: l) 0 = x := rfl
def nameW (k : Int) : List UInt8 := [10, u8i (k / 256), u8i k]
theorem nameW_IsV (k : Int) (j : Nat) : IsV (j + 1) (nameW k) := .name j _ _
theorem rNameW {k : Int} (h0 : 0 ≤ k) (h1 : k ≤ 65535) : m_ref9_Name k = some (nameW k) := by
 unfold m_ref9_Name
 simp only [jn_eq]
 unfold m_ref9_two
 rw [if_neg (by omega), if_neg (by simp; omega), zai, zak (by simp), show (2 : Int) ^ min (Int.toNat 8) IntKind.i64.bits = 256 from rfl, Int.fdiv_eq_ediv_of_nonneg _ (by omega)]; rfl
theorem rBoolW (b : Bool) : ∃ v, m_ref9_Bool b = some v ∧ ∀ k, IsV (k + 1) v ∧ v.length = 2 := by
 unfold m_ref9_Bool
 cases b
 ·exact ⟨_, rfl, fun k => ⟨.bool k 0 (by decide), rfl⟩⟩
 ·exact ⟨_, rfl, fun k => ⟨.bool k 1 (by decide), rfl⟩⟩
theorem rDotW {k : Int} (h0 : 0 ≤ k) (h1 : k ≤ 65535) (l : List (List UInt8)) (hl : l.length ≤ 1000) : m_ref9_Dot k l = some (cmpd 7 (nameW k :: l)) := by
 unfold m_ref9_Dot
 have := rMake 7 (by decide) ([nameW k] ++ l) (by simp; omega)
 rw [show ((7 : UInt8).toNat : Int) = 7 from rfl] at this
 rw [rNameW h0 h1, zai, zak (by simp; omega), this, zai]; rfl
theorem rNumberedW (c : UInt8) (hc : 3 ≤ c.toNat ∧ c.toNat ≤ 9) (k : Int) (l : List (List UInt8)) (hl : l.length ≤ 1000) : m_ref9_Numbered (c.toNat : Int) k l = some (cmpd c (intW k :: l)) := by
 unfold m_ref9_Numbered
 rw [rInt, zai, zak (by simp; omega), rMake c hc _ (by simp; omega), zai]; rfl

noncomputable def mapW (a b : List (List UInt8)) : List (List UInt8) := (sortW a).flatMap (fun k => (a.zip b).flatMap (fun p => if p.1 = k then [k, p.2] else []))
def zipP : List (List UInt8) → List (List UInt8) → List (List UInt8)
 | x :: xs, y :: ys => x :: y :: zipP xs ys
 | _, _ => []
theorem zip_none {k : List UInt8} : ∀ (a b : List (List UInt8)), k ∉ a → (a.zip b).flatMap (fun p => if p.1 = k then [k, p.2] else []) = []
 | [], _, _ => rfl
 | _ :: _, [], _ => rfl
 | x :: xs, y :: ys, h => by
  simp only [List.mem_cons, not_or] at h
  rw [List.zip_cons_cons, List.flatMap_cons, zip_none xs ys h.2]
  simp only []
  rw [if_neg (fun e => h.1 e.symm)]; rfl
theorem flatMap_congr' {α β : Type} {f g : α → List β} : ∀ {l : List α}, (∀ x ∈ l, f x = g x) → l.flatMap f = l.flatMap g
 | [], _ => rfl
 | x :: xs, h => by rw [List.flatMap_cons, List.flatMap_cons, h x (by simp), flatMap_congr' (fun y hy => h y (by simp [hy]))]
theorem zip_all : ∀ (a b : List (List UInt8)), a.Nodup → a.flatMap (fun k => (a.zip b).flatMap (fun p => if p.1 = k then [k, p.2] else [])) = zipP a b
 | [], _, _ => rfl
 | x :: xs, [], _ => by simp [zipP]
 | x :: xs, y :: ys, h => by
  obtain ⟨h1, h2⟩ := List.nodup_cons.1 h
  rw [zipP, List.flatMap_cons, ← zip_all xs ys h2, List.zip_cons_cons, List.flatMap_cons, zip_none xs ys h1]
  simp only [if_true, List.append_nil, List.cons_append, List.nil_append]
  congr 2
  refine flatMap_congr' (fun k hk => ?_)
  rw [List.flatMap_cons, if_neg (fun e => h1 (by rw [show x = k from e]; exact hk)), List.nil_append]
theorem mapW_sorted {a b : List (List UInt8)} (h : SLC a) : mapW a b = zipP a b := by
 unfold mapW; rw [sortW_id h]; exact zip_all a b (slc_nodup h)
theorem zipP_len : ∀ (a b : List (List UInt8)), a.length = b.length → (zipP a b).length = 2 * a.length
 | [], _, _ => by simp [zipP]
 | x :: xs, [], h => by simp at h
 | x :: xs, y :: ys, h => by simp only [zipP, List.length_cons]; rw [zipP_len xs ys (by simpa using h)]; omega
theorem zipP_evens : ∀ (a b : List (List UInt8)), a.length = b.length → evens (zipP a b) = a
 | [], _, _ => by simp [zipP, evens]
 | x :: xs, [], h => by simp at h
 | x :: xs, y :: ys, h => by simp only [zipP, evens]; rw [zipP_evens xs ys (by simpa using h)]
theorem zipP_mem {z : List UInt8} : ∀ {a b : List (List UInt8)}, z ∈ zipP a b → z ∈ a ∨ z ∈ b
 | [], _, h => by simp [zipP] at h
 | x :: xs, [], h => by simp [zipP] at h
 | x :: xs, y :: ys, h => by
  simp only [zipP, List.mem_cons] at h
  rcases h with h | h | h
  ·exact .inl (by simp [h])
  ·exact .inr (by simp [h])
  ·rcases zipP_mem h with h | h
   ·exact .inl (by simp [h])
   ·exact .inr (by simp [h])
theorem rMap_in2 (a b y : List (List UInt8)) (hab : a.length = b.length) (ha : a.length ≤ 10000000) (q : Nat) (hq : q < y.length) (K : List (List UInt8) → Option (List UInt8)) : ∀ (m i n : Nat) (out : List (List UInt8)), i + m = a.length → m < n → out.length + 2 * m ≤ 100000000000 →
  m_ref9_Map_L14 a b y q K n out i = K (out ++ ((a.zip b).drop i).flatMap (fun p => if p.1 = y[q] then [y[q], p.2] else [])) := by
 intro m
 induction m with
 | zero =>
  intro i n out hi hn ho
  obtain ⟨n, rfl⟩ : ∃ q, n = q + 1 := ⟨n - 1, by omega⟩
  rw [m_ref9_Map_L14, m_ref9_Map_B14, if_neg (by omega), List.drop_eq_nil_of_le (by simp; omega)]; simp
 | succ m ih =>
  intro i n out hi hn ho
  obtain ⟨n, rfl⟩ : ∃ q, n = q + 1 := ⟨n - 1, by omega⟩
  have h1 : i < a.length := by omega
  have h2 : i < b.length := by omega
  have h3 : i < (a.zip b).length := by simp; omega
  rw [m_ref9_Map_L14, m_ref9_Map_B14, if_pos (by omega)]
  simp only [jn_eq]
  rw [zak (by omega), zak (by omega), zak (by omega), zak (by omega), zak (by simp; omega), gi_nat h1, gi_nat h2, gi_nat hq, i64_succ (by omega), List.drop_eq_getElem_cons h3, List.flatMap_cons, List.getElem_zip]
  by_cases he : a[i] = y[q]
  ·simp only [he, if_true]
   rw [ih (i + 1) n (out ++ [y[q], b[i]]) (by omega) (by omega) (by simp; omega), List.append_assoc]
  ·simp only [he, if_false]
   rw [ih (i + 1) n out (by omega) (by omega) (by omega), List.nil_append]
theorem rMap_len (a b : List (List UInt8)) (hab : a.length = b.length) (k : List UInt8) : ((a.zip b).flatMap (fun p => if p.1 = k then [k, p.2] else [])).length ≤ 2 * a.length := by
 have key : ∀ (l : List (List UInt8 × List UInt8)), (l.flatMap (fun p => if p.1 = k then [k, p.2] else [])).length ≤ 2 * l.length := by
  intro l
  induction l with
  | nil => simp
  | cons p l ih =>
   simp only [List.flatMap_cons, List.length_append, List.length_cons]
   split
   ·simp only [List.length_cons, List.length_nil]; omega
   ·simp only [List.length_nil]; omega
 have := key (a.zip b)
 simp at this ⊢; omega
theorem rMap_out2 (a b y : List (List UInt8)) (hab : a.length = b.length) (ha : a.length ≤ 200000) (hy : y.length ≤ 200000) (K : List (List UInt8) → Option (List UInt8)) : ∀ (m i n : Nat) (out : List (List UInt8)), i + m = y.length → m < n → out.length + 400000 * m ≤ 90000000000 →
  m_ref9_Map_L8 a b y K n out i = K (out ++ (y.drop i).flatMap (fun k => (a.zip b).flatMap (fun p => if p.1 = k then [k, p.2] else []))) := by
 have hFU := FU_ge
 intro m
 induction m with
 | zero =>
  intro i n out hi hn ho
  obtain ⟨n, rfl⟩ : ∃ q, n = q + 1 := ⟨n - 1, by omega⟩
  rw [m_ref9_Map_L8, m_ref9_Map_B8, if_neg (by omega), List.drop_eq_nil_of_le (by omega)]; simp
 | succ m ih =>
  intro i n out hi hn ho
  obtain ⟨n, rfl⟩ : ∃ q, n = q + 1 := ⟨n - 1, by omega⟩
  have h3 : i < y.length := by omega
  rw [m_ref9_Map_L8, m_ref9_Map_B8, if_pos (by omega)]
  simp only [jn_eq]
  have g1 := rMap_in2 a b y hab (by omega) i h3 (fun x6_j420 => m_ref9_Map_L8 a b y K n x6_j420 (i64 ((i : Int) + 1))) a.length 0 FU out (by omega) (by omega) (by omega)
  have hlen := rMap_len a b hab y[i]
  rw [Int.natCast_zero, List.drop_zero] at g1
  rw [g1, i64_succ (by omega), ih (i + 1) n _ (by omega) (by omega) (by rw [List.length_append]; omega), List.drop_eq_getElem_cons h3, List.flatMap_cons, List.append_assoc]
noncomputable def mpW (a b : List (List UInt8)) : List UInt8 := by
 classical exact if a.length = b.length ∧ (∀ x ∈ a, Vd x) ∧ (∀ x ∈ b, Vd x) ∧ (sortW a).length = a.length then cmpd 6 (mapW a b) else []
theorem mpW_yes {a b : List (List UInt8)} (h : a.length = b.length ∧ (∀ x ∈ a, Vd x) ∧ (∀ x ∈ b, Vd x) ∧ (sortW a).length = a.length) : mpW a b = cmpd 6 (mapW a b) := by unfold mpW; rw [if_pos h]
theorem mpW_no {a b : List (List UInt8)} (h : ¬ (a.length = b.length ∧ (∀ x ∈ a, Vd x) ∧ (∀ x ∈ b, Vd x) ∧ (sortW a).length = a.length)) : mpW a b = [] := by unfold mpW; rw [if_neg h]
theorem mapW_mem {a b : List (List UInt8)} {z : List UInt8} (h : z ∈ mapW a b) : z ∈ a ∨ z ∈ b := by
 unfold mapW at h
 obtain ⟨k, hk, h⟩ := List.mem_flatMap.1 h
 obtain ⟨p, hp, h⟩ := List.mem_flatMap.1 h
 obtain ⟨p1, p2⟩ := p
 split at h
 ·simp only [List.mem_cons, List.not_mem_nil, or_false] at h
  rcases h with h | h
  ·exact .inl (by rw [h]; exact ((sortW_spec a).2.1 k).1 hk)
  ·exact .inr (by rw [h]; exact (List.of_mem_zip hp).2)
 ·simp at h
theorem rMapW (a b : List (List UInt8)) (ha : a.length ≤ 200000) (hb : b.length ≤ 1000000000) : m_ref9_Map a b = some (mpW a b) := by
 have hFU := FU_ge
 unfold m_ref9_Map
 simp only [jn_eq]
 by_cases hl : a.length = b.length
 ·rw [if_neg (fun h => h (by omega)), rAll a (by omega), zai, rAll b (by omega)]
  simp only [zai, rSort a (by omega)]
  cases h1 : a.all vldB with
  | false =>
   rw [mpW_no (by
    rintro ⟨_, h, _⟩
    have : a.all vldB = true := List.all_eq_true.2 (fun x hx => vldB_iff.2 (h x hx))
    rw [h1] at this; cases this)]
   simp
  | true =>
   rw [if_neg (by simp)]
   have hA : ∀ x ∈ a, Vd x := fun x hx => vldB_iff.1 (List.all_eq_true.1 h1 x hx)
   cases h2 : b.all vldB with
   | false =>
    rw [mpW_no (by
     rintro ⟨_, _, h, _⟩
     have : b.all vldB = true := List.all_eq_true.2 (fun x hx => vldB_iff.2 (h x hx))
     rw [h2] at this; cases this)]
    simp
   | true =>
    have hB : ∀ x ∈ b, Vd x := fun x hx => vldB_iff.1 (List.all_eq_true.1 h2 x hx)
    rw [if_neg (by simp)]
    have hlen := (sortW_spec a).2.2
    by_cases hs : (sortW a).length = a.length
    ·rw [if_neg (fun h => h (by omega)), mpW_yes ⟨hl, hA, hB, hs⟩]
     have g1 := rMap_out2 a b (sortW a) hl ha (by omega) (fun x6_j13 => bnd1 (m_ref9_compound 6 x6_j13) (fun y500 => some y500)) (sortW a).length 0 FU [] (by omega) (by omega) (by simp; omega)
     rw [Int.natCast_zero, List.drop_zero, List.nil_append] at g1
     have := rCompound 6 (by decide) (mapW a b) (fun x hx => (mapW_mem hx).elim (hA x) (hB x))
     rw [show ((6 : UInt8).toNat : Int) = 6 from rfl] at this
     unfold mapW at this
     rw [g1, this, zai]
     rfl
    ·rw [if_pos (fun h => hs (by omega)), mpW_no (fun h => hs h.2.2.2)]
 ·rw [if_pos (fun h => hl (by omega)), if_pos trivial, mpW_no (fun h => hl h.1)]

def PV (k c : Nat) (v : List UInt8) : Prop := IsV k v ∧ v.length ≤ c
theorem PV.le {k c k' c' : Nat} {v : List UInt8} (h : PV k c v) (hk : k ≤ k') (hc : c ≤ c') : PV k' c' v := ⟨h.1.le hk, Nat.le_trans h.2 hc⟩
theorem PV_all {k c : Nat} {l : List (List UInt8)} (h : ∀ x ∈ l, PV k c x) : (∀ x ∈ l, IsV k x) ∧ l.flatten.length ≤ c * l.length := ⟨fun x hx => (h x hx).1, flat_le (fun x hx => (h x hx).2)⟩
def GVP (P : List UInt8 → Prop) (f : List Int × Int → Option (List UInt8 × (List Int × Int))) : Prop := ∀ (l : List Int) (i : Int), GS l i → ∃ v i', f (l, i) = some (v, (l, i')) ∧ GS l i' ∧ P v
theorem gValuesP_loop (self : List Int × Int → Int → Option (List UInt8 × (List Int × Int))) (d : Int) (P : List UInt8 → Prop) (hs : GVP P (fun s => self s d)) (K : List Int → Int → List (List UInt8) → Option (List (List UInt8) × (List Int × Int))) : ∀ (m n : Nat) (l : List Int) (i : Int) (out : List (List UInt8)), m < n → GS l i → out.length + m ≤ 1000 → (∀ x ∈ out, P x) →
  ∃ i' out', m_gen_Choices_Values_L2 self d K n l i out m = K l i' out' ∧ GS l i' ∧ out'.length = out.length + m ∧ ∀ x ∈ out', P x := by
 intro m
 induction m with
 | zero =>
  intro n l i out hn hg ho hx
  obtain ⟨n, rfl⟩ : ∃ q, n = q + 1 := ⟨n - 1, by omega⟩
  exact ⟨i, out, by rw [m_gen_Choices_Values_L2, m_gen_Choices_Values_B2, if_neg (by omega)], hg, rfl, hx⟩
 | succ m ih =>
  intro n l i out hn hg ho hx
  obtain ⟨n, rfl⟩ : ∃ q, n = q + 1 := ⟨n - 1, by omega⟩
  obtain ⟨v, i1, e1, g1, p1⟩ := hs l i hg
  have e2 : i64 (((m + 1 : Nat) : Int) - 1) = (m : Int) := by rw [i64_id (by omega)]; omega
  obtain ⟨i', out', h1, h2, h3, h4⟩ := ih n l i1 (out ++ [v]) (by omega) g1 (by simp; omega) (fun x h => by
   rcases List.mem_append.1 h with h | h
   ·exact hx x h
   ·rw [List.mem_singleton.1 h]; exact p1)
  refine ⟨i', out', ?_, h2, by rw [h3]; simp; omega, h4⟩
  simp only [] at e1
  rw [m_gen_Choices_Values_L2, m_gen_Choices_Values_B2, if_pos (by omega), e1, zai]
  simp only []
  rw [zak (by simp; omega), e2, h1]
theorem gValuesP (self : List Int × Int → Int → Option (List UInt8 × (List Int × Int))) (d : Int) (P : List UInt8 → Prop) (hs : GVP P (fun s => self s d)) {l : List Int} {i : Int} (h : GS l i) {most : Int} (h0 : 0 < most) (h1 : most ≤ 100) :
  ∃ L i', m_gen_Choices_Values self (l, i) d most = some (L, (l, i')) ∧ GS l i' ∧ (L.length : Int) < most ∧ ∀ x ∈ L, P x := by
 have hFU := FU_ge
 unfold m_gen_Choices_Values
 rw [jn_eq]
 obtain ⟨y, i1, e1, g1, y0, y1⟩ := gNext h (n := most) (by omega) (by omega)
 obtain ⟨m, rfl⟩ : ∃ m : Nat, y = m := ⟨y.toNat, by omega⟩
 obtain ⟨i', L, h1, h2, h3, h4⟩ := gValuesP_loop self d P hs (fun x0_0_j1 x0_1_j1 x3_j1 => some (x3_j1, (x0_0_j1, x0_1_j1))) m FU l i1 [] (by omega) g1 (by simp; omega) (by simp)
 simp only []
 rw [e1, zai]
 simp only []
 rw [h1]
 exact ⟨L, i', rfl, h2, by simp at h3; omega, h4⟩
theorem gValP_loop (self : List Int × Int → Int → Option (List UInt8 × (List Int × Int))) (d : Int) (P : List UInt8 → Prop) (hs : GVP P (fun s => self s (i64 (d - 1)))) (y : List (List UInt8)) (hy : y.length ≤ 1000) (K : List Int → Int → List (List UInt8) → Option (List UInt8 × (List Int × Int))) : ∀ (m q n : Nat) (l : List Int) (i : Int) (out : List (List UInt8)), q + m = y.length → m < n → GS l i → out.length + m ≤ 1000 → (∀ x ∈ out, P x) →
  ∃ i' out', m_gen_Choices_Value_L4 self d y K n l i out q = K l i' out' ∧ GS l i' ∧ out'.length = out.length + m ∧ ∀ x ∈ out', P x := by
 intro m
 induction m with
 | zero =>
  intro q n l i out hq hn hg ho hx
  obtain ⟨n, rfl⟩ : ∃ q, n = q + 1 := ⟨n - 1, by omega⟩
  exact ⟨i, out, by rw [m_gen_Choices_Value_L4, m_gen_Choices_Value_B4, if_neg (by omega)], hg, rfl, hx⟩
 | succ m ih =>
  intro q n l i out hq hn hg ho hx
  obtain ⟨n, rfl⟩ : ∃ q, n = q + 1 := ⟨n - 1, by omega⟩
  obtain ⟨v, i1, e1, g1, p1⟩ := hs l i hg
  obtain ⟨i', out', h1, h2, h3, h4⟩ := ih (q + 1) n l i1 (out ++ [v]) (by omega) (by omega) g1 (by simp; omega) (fun x h => by
   rcases List.mem_append.1 h with h | h
   ·exact hx x h
   ·rw [List.mem_singleton.1 h]; exact p1)
  refine ⟨i', out', ?_, h2, by rw [h3]; simp; omega, h4⟩
  simp only [] at e1
  rw [m_gen_Choices_Value_L4, m_gen_Choices_Value_B4, if_pos (by omega), e1, zai]
  simp only []
  rw [zak (by simp; omega), i64_succ (by omega), h1]
theorem comp_PV {c : UInt8} (hc : 3 ≤ c.toNat ∧ c.toNat ≤ 9) {l : List (List UInt8)} {k m : Nat} (hk : k ≤ 31) (hv : ∀ x ∈ l, IsV k x) (hl : l.flatten.length + 3 ≤ m) (hm : m ≤ 65535) (hf : formedB c l = true) : PV (k + 1) m (cmpd c l) := by
 have hn : l.length ≤ 65535 := by
  have := flatV_len (ps := l) (fun p hp => (show Vd p from ⟨(hv p hp).le (by omega), by have := flat_mem hp; omega⟩).ne)
  omega
 obtain ⟨h1, h2, _⟩ := comp_ok hc hk hv hn (by omega) hf
 rw [h1]; exact ⟨h2, by rw [raw_len]; omega⟩
theorem betB_int {k : Int} (h : 0 ≤ k ∧ k ≤ 65535) : betB (intW k) 0 65535 = true := by
 unfold betB
 rw [numV_intW (by omega), show gi (intW k) 0 = 1 from rfl, decide_eq_true h.1, decide_eq_true h.2]; rfl
theorem gValueP_leaf {l : List Int} {i1 : Int} (g1 : GS l i1) (x : Int) (hx : x = 0 ∨ x = 1 ∨ x = 2) (R3 R4 R5 R6 R7 R8 : Option (List UInt8 × (List Int × Int))) : ∃ v i', (if x = 1 then (bnd1 (zbd (l, i1) 2) (fun y45 => bnd1 (m_ref9_Bool (decide (y45.1 = 1))) (fun y46 => some (y46, (y45.2.1, y45.2.2))))) else (if x = 2 then (bnd1 (zbd (l, i1) 4) (fun y47 => bnd1 (m_ref9_Name y47.1) (fun y48 => some (y48, (y47.2.1, y47.2.2))))) else (if x = 3 then R3 else (if x = 4 then R4 else (if x = 5 then R5 else (if x = 6 then R6 else (if x = 7 then R7 else (if x = 8 then R8 else (bnd1 (m_gen_Choices_Number (l, i1)) (fun y85 => bnd1 (m_ref9_Int y85.1) (fun y86 => some (y86, (y85.2.1, y85.2.2)))))))))))) ) = some (v, (l, i')) ∧ GS l i' ∧ PV 1 9 v := by
 rcases hx with rfl | rfl | rfl
 ·obtain ⟨v, i2, e2, g2⟩ := gNumber g1
  simp only [e2, zai, rInt]
  exact ⟨_, _, rfl, g2, intW_IsV _ 0, by rw [intW_len]; omega⟩
 ·obtain ⟨v, i2, e2, g2, _⟩ := gNext g1 (n := 2) (by omega) (by omega)
  obtain ⟨w, hw, hw2⟩ := rBoolW (decide (v = 1))
  simp only [e2, zai, hw]
  exact ⟨_, _, rfl, g2, (hw2 0).1, by rw [(hw2 0).2]; omega⟩
 ·obtain ⟨v, i2, e2, g2, h0, h1⟩ := gNext g1 (n := 4) (by omega) (by omega)
  have hw := rNameW (k := v) h0 (by omega)
  simp only [e2, zai, hw]
  exact ⟨_, _, rfl, g2, nameW_IsV _ 0, by simp [nameW]⟩
theorem gValueP_F (self : List Int × Int → Int → Option (List UInt8 × (List Int × Int))) (d : Int) (k c : Nat) (hk : 1 ≤ k ∧ k ≤ 31) (hc : 9 ≤ c ∧ c ≤ 10000) (hd : d ≤ 1 ∨ (1 < d ∧ d ≤ 1000 ∧ GVP (PV k c) (fun s => self s (d - 1)))) : GVP (PV (if d ≤ 1 then 1 else k + 1) (if d ≤ 1 then 9 else 4 * c + 12)) (fun s => m_gen_Choices_Value_F self s d) := by
 have hFU := FU_ge
 intro l i h
 show ∃ v i', m_gen_Choices_Value_F self (l, i) d = some (v, (l, i')) ∧ GS l i' ∧ _
 unfold m_gen_Choices_Value_F
 obtain ⟨y, i1, e1, g1, y0, y1⟩ := gNext h (n := 9) (by omega) (by omega)
 rw [e1, zai]
 simp only [jn_eq]
 by_cases hd1 : d ≤ 1
 ·simp only [if_pos hd1]
  have t1 : 0 ≤ Int.tmod y 3 := Int.tmod_nonneg _ y0
  have t2 : Int.tmod y 3 < 3 := Int.tmod_lt_of_pos _ (by omega)
  exact gValueP_leaf g1 (Int.tmod y 3) (by omega) _ _ _ _ _ _
 ·obtain ⟨_, hd2, hs⟩ := hd.resolve_left hd1
  simp only [if_neg hd1]
  have ed : i64 (d - 1) = d - 1 := i64_id (by omega)
  by_cases hy : y = 0 ∨ y = 1 ∨ y = 2
  ·obtain ⟨v, i', a1, a2, a3⟩ := gValueP_leaf g1 y hy _ _ _ _ _ _
   exact ⟨v, i', a1, a2, a3.le (by omega) (by omega)⟩
  ·rw [if_neg (by omega), if_neg (by omega), ed]
   rcases (show y = 3 ∨ y = 4 ∨ y = 5 ∨ y = 6 ∨ y = 7 ∨ y = 8 by omega) with rfl | rfl | rfl | rfl | rfl | rfl
   ·obtain ⟨v, i2, e2, g2, p2⟩ := hs l i1 g1
    obtain ⟨w, i3, e3, g3, p3⟩ := hs l i2 g2
    have := rMake 3 (by decide) [v, w] (by simp)
    rw [show ((3 : UInt8).toNat : Int) = 3 from rfl] at this
    simp only [] at e2 e3
    simp only [if_true, e2, zai, e3, this]
    refine ⟨_, _, rfl, g3, comp_PV (by decide) hk.2 (fun x hx => ?_) ?_ (by omega) rfl⟩
    ·simp at hx; rcases hx with rfl | rfl
     ·exact p2.1
     ·exact p3.1
    ·have a1 := p2.2; have a2 := p3.2; simp; omega
   ·obtain ⟨L, i2, e2, g2, hl, hp⟩ := gValuesP self (d - 1) _ hs g1 (most := 4) (by omega) (by omega)
    have := rMake 4 (by decide) L (by omega)
    obtain ⟨q1, q2⟩ := PV_all hp
    have q3 : c * L.length ≤ c * 3 := Nat.mul_le_mul_left c (by omega)
    rw [show ((4 : UInt8).toNat : Int) = 4 from rfl] at this
    rw [if_neg (by omega), if_pos rfl, e2, zai, this, zai]
    exact ⟨_, _, rfl, g2, comp_PV (by decide) hk.2 q1 (by omega) (by omega) rfl⟩
   ·obtain ⟨L, i2, e2, g2, hl, hp⟩ := gValuesP self (d - 1) _ hs g1 (most := 4) (by omega) (by omega)
    have hm := (sortW_spec L).2.1
    have hsl := (sortW_spec L).2.2
    obtain ⟨q1, q2⟩ := PV_all (fun x hx => hp x ((hm x).1 hx))
    have q3 : c * (sortW L).length ≤ c * 3 := Nat.mul_le_mul_left c (by omega)
    rw [if_neg (by omega), if_neg (by omega), if_pos rfl, e2, zai, rSet L (by omega), zai]
    refine ⟨_, _, rfl, g2, comp_PV (by decide) hk.2 q1 (by omega) (by omega) ?_⟩
    have := SLC_ascB (fun x hx => (show Vd x from ⟨(q1 x hx).le (by omega), by have := flat_mem hx; omega⟩)) (sortW_spec L).1
    simpa [formedB] using this
   ·obtain ⟨j, i2, e2, g2, j0, j1⟩ := gNext g1 (n := 3) (by omega) (by omega)
    obtain ⟨L, i3, e3, g3, hl, hp⟩ := gValuesP self (d - 1) _ hs g2 (most := 3) (by omega) (by omega)
    obtain ⟨q1, q2⟩ := PV_all hp
    have q3 : c * L.length ≤ c * 2 := Nat.mul_le_mul_left c (by omega)
    have hv := rDotW (k := j) j0 (by omega) L (by omega)
    rw [if_neg (by omega), if_neg (by omega), if_neg (by omega), if_pos rfl, e2, zai]
    simp only []
    rw [e3, zai, hv, zai]
    refine ⟨_, _, rfl, g3, comp_PV (by decide) hk.2 (fun x hx => ?_) ?_ (by omega) ?_⟩
    ·rcases List.mem_cons.1 hx with rfl | hx
     ·exact (nameW_IsV j 0).le hk.1
     ·exact q1 x hx
    ·simp [nameW]; simp at q2; omega
    ·simp [formedB, gi2_00, nameW]; omega
   ·obtain ⟨L, i2, e2, g2, hl, hp⟩ := gValuesP self (d - 1) _ hs g1 (most := 3) (by omega) (by omega)
    have hm := (sortW_spec L).2.1
    have hsl := (sortW_spec L).2.2
    rw [if_neg (by omega), if_neg (by omega), if_neg (by omega), if_neg (by omega), if_pos rfl, e2, zai, rSort L (by omega), zai]
    obtain ⟨i3, O, h1, h2, h3, h4⟩ := gValP_loop self d _ (by rw [ed]; exact hs) (sortW L) (by omega) (fun x0_0_j61 x0_1_j61 x7_j61 => bnd1 (m_ref9_Map (sortW L) x7_j61) (fun y81 => some (y81, (x0_0_j61, x0_1_j61)))) (sortW L).length 0 FU l i2 [] (by omega) (by omega) g2 (by simp; omega) (by simp)
    rw [Int.natCast_zero] at h1
    have h3' : (sortW L).length = O.length := by simp at h3; omega
    have hs1 := (sortW_spec L).1
    have hPk : ∀ x ∈ sortW L, PV k c x := fun x hx => hp x ((hm x).1 hx)
    have hVk : ∀ x, PV k c x → Vd x := fun x hx => ⟨hx.1.le (by omega), by have := hx.2; omega⟩
    have hz : ∀ x ∈ zipP (sortW L) O, PV k c x := fun x hx => (zipP_mem hx).elim (hPk x) (h4 x)
    obtain ⟨q1, q2⟩ := PV_all hz
    have hzl := zipP_len (sortW L) O h3'
    have q3 : c * (zipP (sortW L) O).length ≤ c * 4 := Nat.mul_le_mul_left c (by omega)
    have hmp : mpW (sortW L) O = cmpd 6 (zipP (sortW L) O) := by
     rw [mpW_yes ⟨h3', fun x hx => hVk x (hPk x hx), fun x hx => hVk x (h4 x hx), by rw [sortW_id hs1]⟩, mapW_sorted hs1]
    simp only []
    rw [h1, rMapW (sortW L) O (by omega) (by omega), hmp, zai]
    refine ⟨_, _, rfl, h2, comp_PV (by decide) hk.2 q1 (by omega) (by omega) ?_⟩
    have := SLC_ascB (fun x hx => hVk x (hPk x hx)) hs1
    simp [formedB, zipP_evens _ _ h3', this, hzl]
   ·obtain ⟨j, i2, e2, g2, j0, j1⟩ := gNext g1 (n := 3) (by omega) (by omega)
    obtain ⟨L, i3, e3, g3, hl, hp⟩ := gValuesP self (d - 1) _ hs g2 (most := 2) (by omega) (by omega)
    obtain ⟨q1, q2⟩ := PV_all hp
    have q3 : c * L.length ≤ c * 1 := Nat.mul_le_mul_left c (by omega)
    have hv := rNumberedW 8 (by decide) j L (by omega)
    rw [show ((8 : UInt8).toNat : Int) = 8 from rfl] at hv
    rw [if_neg (by omega), if_neg (by omega), if_neg (by omega), if_neg (by omega), if_neg (by omega), if_pos rfl, e2, zai]
    simp only []
    rw [e3, zai, hv, zai]
    refine ⟨_, _, rfl, g3, comp_PV (by decide) hk.2 (fun x hx => ?_) ?_ (by omega) ?_⟩
    ·rcases List.mem_cons.1 hx with rfl | hx
     ·exact (intW_IsV j 0).le hk.1
     ·exact q1 x hx
    ·simp [intW_len]; simp at q2; omega
    ·simp [formedB, gi2_00, betB_int (k := j) ⟨j0, by omega⟩]; omega
def szV : Nat → Nat
 | 0 => 9
 | 1 => 9
 | d + 2 => 4 * szV (d + 1) + 12
theorem gValueP_S : ∀ (k : Nat), k ≤ 5 → ∀ n, k < n → GVP (PV (max k 1) (szV k)) (fun s => m_gen_Choices_Value_S n s (k : Int))
 | 0, _, n, hn => by
  obtain ⟨n, rfl⟩ : ∃ q, n = q + 1 := ⟨n - 1, by omega⟩
  exact gValueP_F _ _ 1 9 (by omega) (by omega) (.inl (by omega))
 | 1, _, n, hn => by
  obtain ⟨n, rfl⟩ : ∃ q, n = q + 1 := ⟨n - 1, by omega⟩
  exact gValueP_F _ _ 1 9 (by omega) (by omega) (.inl (by omega))
 | k + 2, hk, n, hn => by
  obtain ⟨n, rfl⟩ : ∃ q, n = q + 1 := ⟨n - 1, by omega⟩
  have ih := gValueP_S (k + 1) (by omega) n (by omega)
  have hsz : 9 ≤ szV (k + 1) ∧ szV (k + 1) ≤ 10000 := by
   have : k ≤ 3 := by omega
   rcases (show k = 0 ∨ k = 1 ∨ k = 2 ∨ k = 3 by omega) with rfl | rfl | rfl | rfl <;> decide
  have := gValueP_F (m_gen_Choices_Value_S n) ((k + 2 : Nat) : Int) (max (k + 1) 1) (szV (k + 1)) (by omega) hsz (.inr ⟨by omega, by omega, by
   rw [show ((k + 2 : Nat) : Int) - 1 = ((k + 1 : Nat) : Int) by omega]; exact ih⟩)
  rw [if_neg (by omega), if_neg (by omega)] at this
  intro l i h
  obtain ⟨v, i', a1, a2, a3⟩ := this l i h
  exact ⟨v, i', a1, a2, a3.le (by omega) (Nat.le_refl _)⟩
theorem gValueP (k : Nat) (hk : k ≤ 5) : GVP (PV (max k 1) (szV k)) (fun s => m_gen_Choices_Value s (k : Int)) := by
 have hFU := FU_ge
 exact gValueP_S k hk FU (by omega)

theorem hEqual (a b : List (List UInt8)) (ha : a.length ≤ 1099511627776) : m_help_Equal_api_Value a b = some (decide (a = b)) := by
 have hFU := FU_ge
 unfold m_help_Equal_api_Value
 by_cases hl : a.length = b.length
 ·rw [if_neg (fun h => h (by omega)), jn_eq]
  have loop : ∀ (m i n : Nat), i + m = a.length → m < n → m_help_Equal_api_Value_L2 a b (fun _ => some true) n i = some (decide (a.drop i = b.drop i)) := by
   intro m
   induction m with
   | zero =>
    intro i n hi hn
    obtain ⟨n, rfl⟩ : ∃ q, n = q + 1 := ⟨n - 1, by omega⟩
    rw [m_help_Equal_api_Value_L2, m_help_Equal_api_Value_B2, if_neg (by omega), List.drop_eq_nil_of_le (by omega), List.drop_eq_nil_of_le (by omega)]; rfl
   | succ m ih =>
    intro i n hi hn
    obtain ⟨n, rfl⟩ : ∃ q, n = q + 1 := ⟨n - 1, by omega⟩
    have h1 : i < a.length := by omega
    have h2 : i < b.length := by omega
    rw [m_help_Equal_api_Value_L2, m_help_Equal_api_Value_B2, if_pos (by omega), zak (by omega), zak (by omega), gi_nat h1, gi_nat h2, List.drop_eq_getElem_cons h1, List.drop_eq_getElem_cons h2]
    by_cases he : a[i] = b[i]
    ·rw [if_neg (fun h => h he), i64_succ (by omega), ih (i + 1) n (by omega) (by omega), he]; simp only [List.cons.injEq, true_and]
    ·rw [if_pos he, decide_eq_false (fun e => he (List.cons.inj e).1)]
  have := loop a.length 0 FU (by omega) (by omega)
  rw [Int.natCast_zero, List.drop_zero, List.drop_zero] at this
  exact this
 ·rw [if_pos (fun h => hl (by omega)), decide_eq_false (fun e => hl (by rw [e]))]
end Go.Proofs.YtjlbdhicabgliaaGreat
/- The laws of sets of small integers: FinsetAlgebra, FinsetSubsetsCount. -/
namespace Go.Proofs.YtjlbdhicabgliaaGreat
attribute [local irreducible] FU

def SI (x : List UInt8) : Prop := ∃ k : Int, 0 ≤ k ∧ k < 6 ∧ x = intW k
theorem SI.IsV {x : List UInt8} (h : SI x) (k : Nat) : IsV (k + 1) x := by obtain ⟨n, _, _, rfl⟩ := h; exact intW_IsV n k
theorem SI.len {x : List UInt8} (h : SI x) : x.length = 9 := by obtain ⟨n, _, _, rfl⟩ := h; exact intW_len n
theorem SI.mem {x : List UInt8} (h : SI x) : x ∈ runW 0 6 := by
 obtain ⟨n, h0, h1, rfl⟩ := h
 exact List.mem_map.2 ⟨n.toNat, List.mem_range.2 (by omega), by congr 1; omega⟩
theorem fs_set {L : List (List UInt8)} (h : ∀ x ∈ L, SI x) : prtW (setW L) = sortW L ∧ isSet (setW L) = true ∧ bndW L = (setW L, 0) ∧ (sortW L).length ≤ 6 := by
 have hm := (sortW_spec L).2.1
 have hl : (sortW L).length ≤ 6 := by
  have := nodup_len (l := runW 0 6) (slc_nodup (sortW_spec L).1) (fun x hx => (h x ((hm x).1 hx)).mem)
  rwa [runW_len] at this
 have hf : (sortW L).flatten.length ≤ 9 * (sortW L).length := flat_le (fun x hx => by rw [(h x ((hm x).1 hx)).len]; omega)
 obtain ⟨_, _, a3, a4, a5, _⟩ := set_ok (l := L) (k := 1) (by omega) (fun x hx => (h x hx).IsV 0) (by omega) (by omega)
 exact ⟨a3, a4, bnd_ok (by omega) a5, hl⟩
theorem gs_new {c : List Int} (hc : c.length ≤ maxLen ∧ ∀ x ∈ c, (Lit.int .i64 x).wf = true) : GS c 0 := ⟨by omega, by omega, by have := hc.1; unfold maxLen at this; omega⟩
end Go.Proofs.YtjlbdhicabgliaaGreat
/- Products and ranges: FinsetLimits. -/
namespace Go.Proofs.YtjlbdhicabgliaaGreat
attribute [local irreducible] FU

theorem rRange_loop (b : Int) (hb : b ≤ 9223372036854775807) (K : List (List UInt8) → Option (List UInt8 × Int)) : ∀ (m n : Nat) (a : Int) (out : List (List UInt8)), -9223372036854775808 ≤ a → a + m = b + 1 → m < n → out.length ≤ 4096 → (out.length + m ≤ 4096 → m_ref9_Range_L2 b K n out a = K (out ++ runW a m)) := by
 intro m
 induction m with
 | zero =>
  intro n a out h1 h2 hn _ ho
  obtain ⟨n, rfl⟩ : ∃ q, n = q + 1 := ⟨n - 1, by omega⟩
  rw [m_ref9_Range_L2, m_ref9_Range_B2, if_neg (by omega), show runW a 0 = [] from rfl, List.append_nil]
 | succ m ih =>
  intro n a out h1 h2 hn _ ho
  obtain ⟨n, rfl⟩ : ∃ q, n = q + 1 := ⟨n - 1, by omega⟩
  rw [m_ref9_Range_L2, m_ref9_Range_B2, if_pos (by omega), if_neg (by omega), rInt, zai, zak (by simp; omega)]
  by_cases h : a = 9223372036854775807
  ·obtain rfl : m = 0 := by omega
   rw [if_pos h, runW_succ]; rfl
  ·rw [if_neg h, i64_id (by omega), ih n (a + 1) _ (by omega) (by omega) (by omega) (by simp; omega) (by simp; omega), runW_succ]; simp
theorem rRange_over (b : Int) (hb : b ≤ 9223372036854775807) (K : List (List UInt8) → Option (List UInt8 × Int)) : ∀ (m n : Nat) (a : Int) (out : List (List UInt8)), -9223372036854775808 ≤ a → out.length + m = 4096 → m < n → a + m ≤ b → m_ref9_Range_L2 b K n out a = some ([], 9) := by
 intro m
 induction m with
 | zero =>
  intro n a out h1 h2 hn h3
  obtain ⟨n, rfl⟩ : ∃ q, n = q + 1 := ⟨n - 1, by omega⟩
  rw [m_ref9_Range_L2, m_ref9_Range_B2, if_pos (by omega), if_pos (by omega)]
 | succ m ih =>
  intro n a out h1 h2 hn h3
  obtain ⟨n, rfl⟩ : ∃ q, n = q + 1 := ⟨n - 1, by omega⟩
  rw [m_ref9_Range_L2, m_ref9_Range_B2, if_pos (by omega), if_neg (by omega), rInt, zai, zak (by simp; omega), if_neg (by omega), i64_id (by omega), ih n (a + 1) _ (by omega) (by simp; omega) (by omega) (by omega)]
theorem rRange {a b : Int} (ha : -9223372036854775808 ≤ a) (hb : b ≤ 9223372036854775807) : m_ref9_Range a b = some (if a ≤ b ∧ 4096 ≤ b - a then ([], 9) else bndW (runW a (b - a + 1).toNat)) := by
 have hFU := FU_ge
 unfold m_ref9_Range
 rw [jn_eq]
 have hset : ∀ m : Nat, m ≤ 4096 → m_ref9_bounded (runW a m) = some (bndW (runW a m)) := fun m hm => rBounded _ (by rw [runW_len]; omega)
 by_cases hc : a ≤ b ∧ 4096 ≤ b - a
 ·rw [if_pos hc, rRange_over b hb _ 4096 FU a [] ha (by simp) (by omega) (by omega)]
 ·rw [if_neg hc]
  by_cases hab : a ≤ b
  ·rw [rRange_loop b hb _ (b - a + 1).toNat FU a [] ha (by omega) (by omega) (by simp) (by simp; omega), List.nil_append, hset _ (by omega), zai]
  ·obtain ⟨n, hn⟩ := FU_k 1 (by omega)
   rw [hn, m_ref9_Range_L2, m_ref9_Range_B2, if_neg hab, show (b - a + 1).toNat = 0 by omega]
   have := hset 0 (by omega)
   rw [show runW a 0 = [] from rfl] at this ⊢
   rw [this, zai]

theorem vSeq (l : List (List UInt8)) (hx : ∀ x ∈ l, x.length ≤ 1099511627776) : m_value_Seq l = some (cmpd 4 l) := by
 unfold m_value_Seq
 have := vCompound 4 l hx
 rw [show ((4 : UInt8).toNat : Int) = 4 from rfl] at this
 rw [this, zai]
end Go.Proofs.YtjlbdhicabgliaaGreat
/- Products of sets: program and reference agree. -/
namespace Go.Proofs.YtjlbdhicabgliaaGreat
attribute [local irreducible] FU

def cntR : List (List (List UInt8)) → Nat
 | [] => 1
 | m :: R => cntR R * m.length
noncomputable def rowR : List (List (List UInt8)) → Nat → List (List UInt8)
 | [], _ => []
 | m :: R, k => rowR R (k / m.length) ++ [gi m ((k % m.length : Nat) : Int)]
def rowsR : List (List (List UInt8)) → List (List (List UInt8))
 | [] => [[]]
 | m :: R => (rowsR R).flatMap (fun r => m.map (fun x => r ++ [x]))
theorem rowsR_len : ∀ R, (rowsR R).length = cntR R
 | [] => rfl
 | m :: R => by
  rw [rowsR, cntR, ← rowsR_len R]
  induction rowsR R with
  | nil => simp
  | cons r t ih => rw [List.flatMap_cons, List.length_append, ih, List.length_map, List.length_cons, Nat.add_mul]; omega
theorem range_mul {α : Type} (f : Nat → α) (b : Nat) : ∀ a, (List.range (a * b)).map f = (List.range a).flatMap (fun i => (List.range b).map (fun j => f (i * b + j)))
 | 0 => by simp
 | a + 1 => by
  rw [Nat.add_mul, Nat.one_mul, List.range_add, List.map_append, range_mul f b a, List.range_succ, List.flatMap_append, List.map_map]
  simp
theorem range_gi (m : List (List UInt8)) (g : List UInt8 → List (List UInt8)) : (List.range m.length).map (fun j : Nat => g (gi m ((j : Nat) : Int))) = m.map g := by
 refine List.ext_getElem (by simp) (fun i h1 h2 => ?_)
 simp at h1 h2
 simp only [List.getElem_map, List.getElem_range]
 rw [gi_nat h1]
theorem rowsR_eq : ∀ R : List (List (List UInt8)), (∀ m ∈ R, 0 < m.length) → rowsR R = (List.range (cntR R)).map (rowR R)
 | [], _ => rfl
 | m :: R, h => by
  have hm := h m (by simp)
  have ih := rowsR_eq R (fun x hx => h x (by simp [hx]))
  rw [rowsR, cntR, range_mul, ih, List.flatMap_map]
  congr 1
  funext i
  rw [← range_gi m (fun x => rowR R i ++ [x])]
  refine List.map_congr_left fun j hj => ?_
  simp at hj
  rw [rowR, show (i * m.length + j) / m.length = i by rw [Nat.mul_comm, Nat.mul_add_div hm, Nat.div_eq_of_lt hj, Nat.add_zero], show (i * m.length + j) % m.length = j by rw [Nat.mul_comm, Nat.mul_add_mod, Nat.mod_eq_of_lt hj]]
theorem rowR_mem {k : Nat} {x : List UInt8} : ∀ {R : List (List (List UInt8))} {k : Nat}, (∀ m ∈ R, 0 < m.length) → x ∈ rowR R k → ∃ m ∈ R, x ∈ m
 | [], _, _, h => by simp [rowR] at h
 | m :: R, k, hp, h => by
  rw [rowR] at h
  have hm := Nat.mod_lt k (hp m (by simp))
  rcases List.mem_append.1 h with h | h
  ·obtain ⟨m', h1, h2⟩ := rowR_mem (k := k) (fun x hx => hp x (by simp [hx])) h
   exact ⟨m', by simp [h1], h2⟩
  ·rw [gi_nat hm, List.mem_singleton] at h
   exact ⟨m, by simp, h ▸ List.getElem_mem _⟩
theorem take_rev {α : Type} (L : List α) {i : Nat} (h : i < L.length) : (L.take (i + 1)).reverse = L[i] :: (L.take i).reverse := by
 rw [← List.take_append_getElem h, List.reverse_append]; rfl
theorem cnt_mono (L : List (List (List UInt8))) (hp : ∀ m ∈ L, 0 < m.length) : ∀ d i, i + d = L.length → cntR (L.take i).reverse ≤ cntR L.reverse
 | 0, i, h => by rw [show i = L.length by omega, List.take_length]; exact Nat.le_refl _
 | d + 1, i, h => by
  have hi : i < L.length := by omega
  have := cnt_mono L hp d (i + 1) (by omega)
  rw [take_rev L hi, cntR] at this
  exact Nat.le_trans (Nat.le_mul_of_pos_right _ (hp _ (List.getElem_mem hi))) this
theorem vCount_loop (L : List (List (List UInt8))) (hL : L.length ≤ 10000000) (hb : ∀ m ∈ L, m.length ≤ 65535) : ∀ (d i n : Nat) (c : Nat), i + d = L.length → d < n → (∀ m ∈ L.take i, 0 < m.length) → c = min (cntR (L.take i).reverse) 4097 →
  m_finset_count_L2 L (fun x => some x) n (c : Int) i = some (if L.all (fun m => decide (0 < m.length)) then ((min (cntR L.reverse) 4097 : Nat) : Int) else 0) := by
 intro d
 induction d with
 | zero =>
  intro i n c hi hn hp hc
  obtain ⟨n, rfl⟩ : ∃ q, n = q + 1 := ⟨n - 1, by omega⟩
  rw [show i = L.length by omega, List.take_length] at hp hc
  rw [m_finset_count_L2, m_finset_count_B2, if_neg (by omega), if_pos (by simpa using hp), hc]
 | succ d ih =>
  intro i n c hi hn hp hc
  obtain ⟨n, rfl⟩ : ∃ q, n = q + 1 := ⟨n - 1, by omega⟩
  have hil : i < L.length := by omega
  rw [m_finset_count_L2, m_finset_count_B2, if_pos (by omega), zak (by omega), gi_nat hil, i64_succ (by omega)]
  have hbi := hb _ (List.getElem_mem hil)
  by_cases h0 : L[i].length = 0
  ·rw [if_pos (by omega), if_neg]
   intro h
   have := List.all_eq_true.1 h _ (List.getElem_mem hil)
   simp [h0] at this
  ·rw [if_neg (by omega)]
   have hc7 : c ≤ 4097 := by rw [hc]; exact Nat.min_le_right _ _
   have hmul : c * L[i].length ≤ 4097 * 65535 := Nat.mul_le_mul hc7 hbi
   have e1 : i64 ((c : Int) * (L[i].length : Int)) = ((c * L[i].length : Nat) : Int) := by rw [← Int.natCast_mul]; exact i64_id (by omega)
   rw [e1, show min (((c * L[i].length : Nat) : Int)) 4097 = ((min (c * L[i].length) 4097 : Nat) : Int) by omega]
   refine ih (i + 1) n _ (by omega) (by omega) (fun m hm => ?_) ?_
   ·rw [← List.take_append_getElem hil] at hm
    rcases List.mem_append.1 hm with h | h
    ·exact hp m h
    ·rw [List.mem_singleton.1 h]; omega
   ·rw [take_rev L hil, cntR]
    generalize cntR (L.take i).reverse = C at hc
    generalize L[i].length = z at h0
    by_cases hC : C ≤ 4097
    ·rw [hc, Nat.min_eq_left hC]
    ·have h1 : 4097 * 1 ≤ 4097 * z := Nat.mul_le_mul_left _ (by omega)
     have h2 : 4097 * 1 ≤ C * z := Nat.mul_le_mul (by omega) (by omega)
     have hc' : c = 4097 := by rw [hc]; exact Nat.min_eq_right (by omega)
     rw [hc', Nat.min_eq_right (by omega), Nat.min_eq_right (by omega)]
theorem vCount (L : List (List (List UInt8))) (hL : L.length ≤ 10000000) (hb : ∀ m ∈ L, m.length ≤ 65535) : m_finset_count L = some (if L.all (fun m => decide (0 < m.length)) then ((min (cntR L.reverse) 4097 : Nat) : Int) else 0) := by
 have hFU := FU_ge
 unfold m_finset_count
 rw [jn_eq]
 have := vCount_loop L hL hb L.length 0 FU 1 (by omega) (by omega) (by simp) rfl
 rw [Int.natCast_zero] at this
 exact this
theorem vRow {y1 : List (List (List UInt8)) × Int} (hL : y1.1.length ≤ 10000000) (hp : ∀ m ∈ y1.1, 0 < m.length ∧ m.length ≤ 65535) (K : List (List UInt8) → Option (List UInt8 × Int)) : ∀ (j n k : Nat) (T : List (List UInt8)), j ≤ y1.1.length → j < n → k ≤ 100000 →
  m_finset_Product_L26 y1 K n k (List.replicate j ([] : List UInt8) ++ T) ((j : Int) - 1) = K (rowR (y1.1.take j).reverse k ++ T) := by
 intro j
 induction j with
 | zero =>
  intro n k T hj hn hk
  obtain ⟨n, rfl⟩ : ∃ q, n = q + 1 := ⟨n - 1, by omega⟩
  rw [m_finset_Product_L26, m_finset_Product_B26, if_neg (by omega)]
  simp [rowR]
 | succ j ih =>
  intro n k T hj hn hk
  obtain ⟨n, rfl⟩ : ∃ q, n = q + 1 := ⟨n - 1, by omega⟩
  have hjl : j < y1.1.length := by omega
  obtain ⟨h0, hb⟩ := hp _ (List.getElem_mem hjl)
  have e : ((j + 1 : Nat) : Int) - 1 = (j : Int) := by omega
  have ht : Int.tmod (k : Int) (y1.1[j].length : Int) = ((k % y1.1[j].length : Nat) : Int) := rfl
  have hdv : Int.tdiv (k : Int) (y1.1[j].length : Int) = ((k / y1.1[j].length : Nat) : Int) := rfl
  have hd : k / y1.1[j].length ≤ k := Nat.div_le_self _ _
  have hm : k % y1.1[j].length < y1.1[j].length := Nat.mod_lt _ h0
  have hset : List.set (List.replicate (j + 1) ([] : List UInt8) ++ T) j (gi y1.1[j] ((k % y1.1[j].length : Nat) : Int)) = List.replicate j ([] : List UInt8) ++ (gi y1.1[j] ((k % y1.1[j].length : Nat) : Int) :: T) := by
   rw [List.replicate_succ', List.append_assoc, List.set_append_right _ _ (by simp)]
   simp
  rw [m_finset_Product_L26, m_finset_Product_B26, e, if_pos (by omega), gi_nat hjl, ht, hdv, Int.toNat_natCast, hset]
  have ei : i64 ((k / y1.1[j].length : Nat) : Int) = ((k / y1.1[j].length : Nat) : Int) := by
   generalize k / y1.1[j].length = z at hd
   exact i64_id (by omega)
  have ei2 : i64 ((j : Int) - 1) = (j : Int) - 1 := i64_id (by omega)
  rw [zak (by omega), zak (by omega), zak (by omega), zak (by omega), zak (by simp; omega), zak (by omega), zak (by omega), ei, ei2, ih n _ _ (by omega) (by omega) (by omega), take_rev _ hjl, rowR]
  simp
theorem vRows {y1 : List (List (List UInt8)) × Int} (hL : y1.1.length ≤ 10000000) (hp : ∀ m ∈ y1.1, 0 < m.length ∧ m.length ≤ 65535) (hx : ∀ m ∈ y1.1, ∀ x ∈ m, x.length ≤ 131072) (N : Nat) (hN : N ≤ 4096) (K : List (List UInt8) → Option (List UInt8 × Int)) : ∀ (d j n : Nat) (out : List (List UInt8)), j + d = N → d < n → out.length + d ≤ 100000 →
  m_finset_Product_L14 y1 (N : Int) K n out j = K (out ++ (List.range' j d).map (fun k : Nat => cmpd 4 (rowR y1.1.reverse k))) := by
 have hFU := FU_ge
 intro d
 induction d with
 | zero =>
  intro j n out hi hn ho
  obtain ⟨n, rfl⟩ : ∃ q, n = q + 1 := ⟨n - 1, by omega⟩
  rw [m_finset_Product_L14, m_finset_Product_B14, if_neg (by omega)]
  simp
 | succ d ih =>
  intro j n out hi hn ho
  obtain ⟨n, rfl⟩ : ∃ q, n = q + 1 := ⟨n - 1, by omega⟩
  rw [m_finset_Product_L14, m_finset_Product_B14, if_pos (by omega)]
  simp only [jn_eq]
  have hr := vRow hL hp (fun x9_j563 => bnd1 (m_value_Seq x9_j563) (fun y607 => need (List.length out + List.length [y607] ≤ 137438953472) (m_finset_Product_L14 y1 (N : Int) K n (out ++ [y607]) (i64 ((j : Int) + 1))))) y1.1.length FU j [] (by omega) (by omega) (by omega)
  rw [List.append_nil, List.append_nil, List.take_length] at hr
  rw [zak (by omega), i64_id (x := (y1.1.length : Int) - 1) (by omega), Int.toNat_natCast, hr, vSeq _ (fun x h => by
   obtain ⟨m, h1, h2⟩ := rowR_mem (k := j) (fun m hm => (hp m (by simpa using hm)).1) h
   have := hx m (by simpa using h1) x h2; omega), zai, zak (by simp; omega), i64_succ (by omega), ih (j + 1) n _ (by omega) (by omega) (by simp; omega)]
  simp [List.range'_succ]
noncomputable def pdW (l : List (List UInt8)) : List UInt8 × Int :=
 if l.all isSet = true then (if (l.map prtW).all (fun m => decide (0 < m.length)) = true then (if 4096 < cntR (l.map prtW).reverse then ([], 9) else bndW ((rowsR (l.map prtW).reverse).map (cmpd 4))) else (setW [], 0)) else ([], 6)
theorem vProduct (l : List (List UInt8)) (hl : l.length ≤ 10000000) : m_finset_Product l = some (pdW l) := by
 have hFU := FU_ge
 unfold m_finset_Product pdW
 rw [vElements _ (by omega), zai]
 have hb : ∀ m ∈ l.map prtW, m.length ≤ 65535 := fun m hm => by
  obtain ⟨v, _, rfl⟩ := List.mem_map.1 hm
  exact (prtW_spec v).2.1
 have hx : ∀ m ∈ l.map prtW, ∀ x ∈ m, x.length ≤ 131072 := fun m hm x hxm => by
  obtain ⟨v, _, rfl⟩ := List.mem_map.1 hm
  exact ((prtW_spec v).1 x hxm).2
 by_cases h : l.all isSet = true
 ·rw [if_pos h, if_pos h]
  generalize hy : ((l.map prtW, 0) : List (List (List UInt8)) × Int) = y1
  have hg : l.map prtW = y1.1 := by rw [← hy]
  have hg0 : y1.2 = 0 := by rw [← hy]
  rw [hg] at hb hx ⊢
  have hyl : y1.1.length ≤ 10000000 := by rw [← hg]; simpa using hl
  have hsetf : ∀ S : List (List UInt8), S.length ≤ 4096 → (∀ x ∈ S, x.length ≤ 131072) → m_finset_set S = some (bndW S) := fun S hS hSx => vSetF S (by omega) (fun x hx => by have := hSx x hx; omega) (.inr hS)
  rw [if_neg (fun h => h hg0), vCount _ hyl hb, zai]
  by_cases ha : y1.1.all (fun m => decide (0 < m.length)) = true
  ·rw [if_pos ha, if_pos ha]
   have hpos : ∀ m ∈ y1.1, 0 < m.length := by simpa using ha
   by_cases hc : 4096 < cntR y1.1.reverse
   ·rw [if_pos (by omega), if_pos hc]
   ·rw [if_neg (by omega), if_neg hc, jn_eq, show min (cntR y1.1.reverse) 4097 = cntR y1.1.reverse by omega]
    have hr := vRows hyl (fun m hm => ⟨hpos m hm, hb m hm⟩) hx (cntR y1.1.reverse) (by omega) (fun x => bnd1 (m_finset_set x) (fun y610 => some (y610.1, y610.2))) (cntR y1.1.reverse) 0 FU [] (by omega) (by omega) (by simp; omega)
    rw [Int.natCast_zero] at hr
    have he : (List.range' 0 (cntR y1.1.reverse)).map (fun k : Nat => cmpd 4 (rowR y1.1.reverse k)) = (rowsR y1.1.reverse).map (cmpd 4) := by
     rw [rowsR_eq _ (fun m hm => hpos m (by simpa using hm)), List.map_map, ← List.range_eq_range']; rfl
    rw [hr, List.nil_append, he, hsetf _ (by rw [List.length_map, rowsR_len]; omega) (fun x hx => by
     obtain ⟨r, _, rfl⟩ := List.mem_map.1 hx
     unfold cmpd; split
     ·rename_i h; exact h.2.2.2
     ·simp), zai]
  ·rw [if_neg ha, if_neg ha, if_neg (by omega), jn_eq]
   obtain ⟨n, hn⟩ := FU_k 1 (by omega)
   rw [hn, m_finset_Product_L14, m_finset_Product_B14, if_neg (by omega), hsetf [] (by simp) (by simp), zai, (fs_set (L := []) (by simp)).2.2.1]
 ·rw [if_neg h, if_neg h, if_pos (by decide)]

theorem rProd_in (X : List (List (List UInt8))) (m : List (List UInt8)) (i : Nat) (hi : i < X.length) (hb : X.length ≤ 4096 ∧ m.length ≤ 65535 ∧ X[i].length ≤ 10000000) (K : List (List (List UInt8)) → Option (List UInt8 × Int)) : ∀ (d j n : Nat) (out : List (List (List UInt8))), j + d = m.length → d < n → out.length ≤ 4096 →
  m_ref9_Product_L172 X m i K n out j = if out.length + d ≤ 4096 then K (out ++ (m.drop j).map (fun x => X[i] ++ [x])) else some ([], 9) := by
 intro d
 induction d with
 | zero =>
  intro j n out hj hn ho
  obtain ⟨n, rfl⟩ : ∃ q, n = q + 1 := ⟨n - 1, by omega⟩
  rw [m_ref9_Product_L172, m_ref9_Product_B172, if_neg (by omega), if_pos (by omega), List.drop_eq_nil_of_le (by omega)]
  simp
 | succ d ih =>
  intro j n out hj hn ho
  obtain ⟨n, rfl⟩ : ∃ q, n = q + 1 := ⟨n - 1, by omega⟩
  have hjl : j < m.length := by omega
  rw [m_ref9_Product_L172, m_ref9_Product_B172, if_pos (by omega)]
  by_cases hc : 4096 ≤ out.length
  ·rw [if_pos (by omega), if_neg (by omega)]
  ·rw [if_neg (by omega), gi_nat hi, gi_nat hjl, zak (by omega), zak (by omega), zak (by omega), zak (by simp; omega), zak (by simp; omega), i64_succ (by omega), ih (j + 1) n _ (by omega) (by omega) (by simp; omega), List.drop_eq_getElem_cons hjl]
   simp only [List.length_append, List.length_cons, List.length_nil, List.map_cons, List.append_assoc, List.singleton_append]
   by_cases h : out.length + (d + 1) ≤ 4096
   ·rw [if_pos (by omega), if_pos h]
   ·rw [if_neg (by omega), if_neg h]
theorem rProd_mid (X : List (List (List UInt8))) (m : List (List UInt8)) (hb : X.length ≤ 4096 ∧ m.length ≤ 65535 ∧ ∀ r ∈ X, r.length ≤ 10000000) (K : List (List (List UInt8)) → Option (List UInt8 × Int)) : ∀ (d i n : Nat) (out : List (List (List UInt8))), i + d = X.length → d < n → out.length ≤ 4096 →
  m_ref9_Product_L166 X m K n out i = if out.length + ((X.drop i).flatMap (fun r => m.map (fun x => r ++ [x]))).length ≤ 4096 then K (out ++ (X.drop i).flatMap (fun r => m.map (fun x => r ++ [x]))) else some ([], 9) := by
 have hFU := FU_ge
 intro d
 induction d with
 | zero =>
  intro i n out hi hn ho
  obtain ⟨n, rfl⟩ : ∃ q, n = q + 1 := ⟨n - 1, by omega⟩
  rw [m_ref9_Product_L166, m_ref9_Product_B166, if_neg (by omega), List.drop_eq_nil_of_le (by omega)]
  simp [ho]
 | succ d ih =>
  intro i n out hi hn ho
  obtain ⟨n, rfl⟩ : ∃ q, n = q + 1 := ⟨n - 1, by omega⟩
  have hil : i < X.length := by omega
  rw [m_ref9_Product_L166, m_ref9_Product_B166, if_pos (by omega), jn_eq]
  have hin := rProd_in X m i hil ⟨hb.1, hb.2.1, hb.2.2 _ (List.getElem_mem hil)⟩ (fun x8_j3710 => m_ref9_Product_L166 X m K n x8_j3710 (i64 ((i : Int) + 1))) m.length 0 FU out (by omega) (by omega) ho
  rw [Int.natCast_zero, List.drop_zero, i64_succ (by omega)] at hin
  rw [i64_succ (by omega), hin, List.drop_eq_getElem_cons hil, List.flatMap_cons]
  by_cases h : out.length + m.length ≤ 4096
  ·rw [if_pos h, ih (i + 1) n _ (by omega) (by omega) (by simp; omega)]
   simp only [List.length_append, List.length_map, List.append_assoc]
   by_cases h2 : out.length + (m.length + ((X.drop (i + 1)).flatMap (fun r => m.map (fun x => r ++ [x]))).length) ≤ 4096
   ·rw [if_pos (by omega), if_pos h2]
   ·rw [if_neg (by omega), if_neg h2]
  ·rw [if_neg h, if_neg (by simp only [List.length_append, List.length_map]; omega)]
theorem rowsR_mem_len {r : List (List UInt8)} : ∀ {R : List (List (List UInt8))}, r ∈ rowsR R → r.length = R.length
 | [], h => by simp [rowsR] at h; subst h; rfl
 | m :: R, h => by
  rw [rowsR] at h
  obtain ⟨s, h1, h2⟩ := List.mem_flatMap.1 h
  obtain ⟨x, _, rfl⟩ := List.mem_map.1 h2
  rw [List.length_append, rowsR_mem_len h1]; rfl
theorem rProd_out (l : List (List UInt8)) (hl : l.length ≤ 1100000) (hp : ∀ m ∈ l.map prtW, 0 < m.length) (K : List (List (List UInt8)) → Option (List UInt8 × Int)) : ∀ (d i n : Nat), i + d = l.length → d < n → cntR ((l.map prtW).take i).reverse ≤ 4096 →
  m_ref9_Product_L88 l K n (rowsR ((l.map prtW).take i).reverse) i = if cntR (l.map prtW).reverse ≤ 4096 then K (rowsR (l.map prtW).reverse) else some ([], 9) := by
 have hFU := FU_ge
 intro d
 induction d with
 | zero =>
  intro i n hi hn hc
  obtain ⟨n, rfl⟩ : ∃ q, n = q + 1 := ⟨n - 1, by omega⟩
  have e : (l.map prtW).take i = l.map prtW := List.take_of_length_le (by simp; omega)
  rw [e] at hc ⊢
  rw [m_ref9_Product_L88, m_ref9_Product_B88, if_neg (by omega), if_pos hc]
 | succ d ih =>
  intro i n hi hn hc
  obtain ⟨n, rfl⟩ : ∃ q, n = q + 1 := ⟨n - 1, by omega⟩
  have hil : i < l.length := by omega
  have hil' : i < (l.map prtW).length := by simpa using hil
  have hm := cnt_mono (l.map prtW) hp (l.length - (i + 1)) (i + 1) (by simp; omega)
  have htr := take_rev (l.map prtW) hil'
  rw [List.getElem_map] at htr
  have hmid := rProd_mid (rowsR ((l.map prtW).take i).reverse) (prtW l[i]) ⟨by rw [rowsR_len]; omega, (prtW_spec l[i]).2.1, fun r hr => by rw [rowsR_mem_len hr]; simp; omega⟩ (fun x => m_ref9_Product_L88 l K n x ((i + 1 : Nat) : Int)) (rowsR ((l.map prtW).take i).reverse).length 0 FU [] (by omega) (by rw [rowsR_len]; omega) (by simp)
  rw [Int.natCast_zero, List.drop_zero, List.nil_append] at hmid
  have hT : (rowsR ((l.map prtW).take i).reverse).flatMap (fun r => (prtW l[i]).map (fun x => r ++ [x])) = rowsR ((l.map prtW).take (i + 1)).reverse := by rw [htr, rowsR]
  rw [hT, rowsR_len, List.length_nil, Nat.zero_add] at hmid
  rw [m_ref9_Product_L88, m_ref9_Product_B88, if_pos (by omega)]
  simp only [jn_eq]
  rw [zak (by omega), gi_nat hil, rPartsW, zai, i64_succ (by omega), hmid]
  by_cases h : cntR ((l.map prtW).take (i + 1)).reverse ≤ 4096
  ·rw [if_pos h, ih (i + 1) n (by omega) (by omega) h]
  ·rw [if_neg h, if_neg (by omega)]
theorem rProd_empty (l : List (List UInt8)) (hl : l.length ≤ 10000000) (K : Unit → Option (List UInt8 × Int)) : m_ref9_Product_L2 l K FU 0 = if (l.map prtW).all (fun m => decide (0 < m.length)) = true then K () else some (setW [], 0) := by
 have h := loop_all l (by omega) (fun n (_ : Unit) i => m_ref9_Product_L2 l K n i) (fun s x k => if !decide (0 < (prtW x).length) then some (setW [], 0) else k s) K (fun n s i hi => by
   show m_ref9_Product_L2 l _ (n + 1) _ = _
   rw [m_ref9_Product_L2, m_ref9_Product_B2, if_pos (by omega), zak (by omega), gi_nat hi, rPartsW, zai, i64_succ (by omega), rSet [] (by simp), zai]
   by_cases hk : (prtW l[i]).length = 0
   ·rw [if_pos (by omega), if_pos (by rw [hk]; rfl)]
   ·have hk' : 0 < (prtW l[i]).length := by omega
    rw [if_neg (by omega), if_neg (by rw [decide_eq_true hk']; simp)]) (fun n s => by
   show m_ref9_Product_L2 l _ (n + 1) _ = _
   rw [m_ref9_Product_L2, m_ref9_Product_B2, if_neg (by omega)]) ()
 refine h.trans ?_
 rw [foldK_any]
 by_cases ha : (l.map prtW).all (fun m => decide (0 < m.length)) = true
 ·rw [if_pos ha, if_neg]
  simp at ha ⊢
  intro x hx
  exact List.length_pos_iff.1 (ha x hx)
 ·rw [if_neg ha, if_pos]
  simp at ha ⊢
  exact ha
theorem setW_bad {l : List (List UInt8)} (h : [] ∈ l) : setW l = [] := by
 unfold setW
 exact cmpd_no (fun hh => (hh.2.1 [] (((sortW_spec l).2.1 []).2 h)).ne rfl)
theorem rProd_make (X : List (List (List UInt8))) (hX : X.length ≤ 4096) (hr : ∀ r ∈ X, r.length ≤ 10000000) : m_ref9_Product_L174 X (fun x => bnd1 (m_ref9_bounded x) (fun y => some (y.1, y.2))) FU [] 0 = some (bndW (X.map (cmpd 4))) := by
 have hmk : ∀ r ∈ X, m_ref9_Make 4 r = some (cmpd 4 r) := fun r h => by
  have := rMake 4 (by decide) r (by have := hr r h; omega)
  rwa [show ((4 : UInt8).toNat : Int) = 4 from rfl] at this
 have h := loop_all X (by omega) (fun n s i => m_ref9_Product_L174 X (fun x => bnd1 (m_ref9_bounded x) (fun y => some (y.1, y.2))) n s i) (fun r x k => if !decide (cmpd 4 x = []) then need (List.length r + 1 ≤ 137438953472) (k (r ++ [cmpd 4 x])) else some ([], 9)) (fun x => bnd1 (m_ref9_bounded x) (fun y => some (y.1, y.2))) (fun n s i hi => by
   show m_ref9_Product_L174 X _ (n + 1) _ _ = _
   rw [m_ref9_Product_L174, m_ref9_Product_B174, if_pos (by omega), zak (by omega), gi_nat hi, hmk _ (List.getElem_mem hi), zai, i64_succ (by omega)]
   by_cases hk : cmpd 4 X[i] = []
   ·rw [if_pos hk, if_neg (by simp [hk])]
   ·rw [if_neg hk, if_pos (by simp [hk])]; rfl) (fun n s => by
   show m_ref9_Product_L174 X _ (n + 1) _ _ = _
   rw [m_ref9_Product_L174, m_ref9_Product_B174, if_neg (by omega)]) []
 refine h.trans ?_
 rw [foldK_all _ _ _ _ _ _ (by simp; omega)]
 by_cases ha : X.all (fun x => !decide (cmpd 4 x = [])) = true
 ·rw [if_pos ha, List.nil_append, rBounded _ (by simp; omega), zai]
 ·rw [if_neg ha]
  have hm : ([] : List UInt8) ∈ X.map (cmpd 4) := by
   simp at ha
   obtain ⟨x, hx, he⟩ := ha
   exact List.mem_map.2 ⟨x, hx, he⟩
  unfold bndW
  rw [if_pos (.inr (setW_bad hm))]
theorem rProduct (l : List (List UInt8)) (hl : l.length ≤ 1100000) : m_ref9_Product l = some (pdW l) := by
 have hFU := FU_ge
 unfold m_ref9_Product pdW
 rw [rSets _ (by omega), zai]
 by_cases h : l.all isSet = true
 ·rw [if_pos h, if_neg (by simpa using h)]
  simp only [jn_eq]
  rw [rProd_empty l (by omega)]
  by_cases ha : (l.map prtW).all (fun m => decide (0 < m.length)) = true
  ·rw [if_pos ha, if_pos ha]
   have hpos : ∀ m ∈ l.map prtW, 0 < m.length := fun m hm => of_decide_eq_true (List.all_eq_true.1 ha m hm)
   have hout := rProd_out l hl hpos (fun x4_j22 => m_ref9_Product_L174 x4_j22 (fun x => bnd1 (m_ref9_bounded x) (fun y => some (y.1, y.2))) FU [] 0) l.length 0 FU (by omega) (by omega) (by simp [cntR])
   rw [Int.natCast_zero] at hout
   refine Eq.trans hout ?_
   by_cases hc : cntR (l.map prtW).reverse ≤ 4096
   ·rw [if_pos hc, if_neg (by omega), rProd_make _ (by rw [rowsR_len]; exact hc) (fun r hr => by rw [rowsR_mem_len hr]; simp; omega)]
   ·rw [if_neg hc, if_pos (by omega)]
  ·rw [if_neg ha, if_neg ha]
 ·rw [if_neg h, if_pos (by simpa using h)]
end Go.Proofs.YtjlbdhicabgliaaGreat
