/- Loops over lists. -/
import Derived.Test.YtkplmgdmkfgjhaaDa
namespace Go.Proofs.Ytkplmgdmkfgjhaa
attribute [local irreducible] FU

/-- A loop over a list with what goes on behind it. -/
def foldK {σ α ρ : Type} (f : σ → α → (σ → Option ρ) → Option ρ) (K : σ → Option ρ) : List α → σ → Option ρ
  | [], s => K s
  | x :: xs, s => f s x (fun s' => foldK f K xs s')
theorem i64_succ {i : Nat} (h : i < 4611686018427387904) : i64 ((i : Int) + 1) = ((i + 1 : Nat) : Int) := by rw [i64_id (by omega)]; omega
theorem i64_sub1 {i : Nat} (h : i < 4611686018427387904) : i64 ((i : Int) - 1) = (i : Int) - 1 := i64_id (by omega)
theorem loop_fold {σ α ρ : Type} (l : List α) (L : Nat → σ → Int → Option ρ) (f : σ → α → (σ → Option ρ) → Option ρ) (K : σ → Option ρ)
    (hs : ∀ n s (i : Nat) (h : i < l.length), L (n + 1) s (i : Int) = f s l[i] (fun s' => L n s' ((i + 1 : Nat) : Int))) (he : ∀ n s, L (n + 1) s (l.length : Int) = K s) :
    ∀ (m i n : Nat) (s : σ), i + m = l.length → m < n → L n s (i : Int) = foldK f K (l.drop i) s := by
  intro m
  induction m with
  | zero =>
    intro i n s hi h
    obtain ⟨n, rfl⟩ : ∃ k, n = k + 1 := ⟨n - 1, by omega⟩
    obtain rfl : i = l.length := by omega
    rw [he, List.drop_length]; rfl
  | succ m ih =>
    intro i n s hi h
    obtain ⟨n, rfl⟩ : ∃ k, n = k + 1 := ⟨n - 1, by omega⟩
    rw [hs n s i (by omega), List.drop_eq_getElem_cons (show i < l.length by omega), foldK]
    congr 1
    funext s'
    exact ih (i + 1) n s' (by omega) (by omega)
theorem loop_all {σ α ρ : Type} (l : List α) (hl : l.length < 4611686018427387904) (L : Nat → σ → Int → Option ρ) (f : σ → α → (σ → Option ρ) → Option ρ) (K : σ → Option ρ)
    (hs : ∀ n s (i : Nat) (h : i < l.length), L (n + 1) s (i : Int) = f s l[i] (fun s' => L n s' ((i + 1 : Nat) : Int))) (he : ∀ n s, L (n + 1) s (l.length : Int) = K s) (s : σ) :
    L FU s 0 = foldK f K l s := by
  have := FU_ge
  exact loop_fold l L f K hs he l.length 0 FU s (by omega) (by omega)
theorem foldK_get {σ α ρ : Type} {m : σ → α → Option σ} {g : σ → α → σ} {K : σ → Option ρ} (P : List α → σ → Prop) (hm : ∀ x xs s, P (x :: xs) s → m s x = some (g s x) ∧ P xs (g s x)) :
    ∀ (l : List α) (s : σ), P l s → foldK (fun s x k => bnd1 (m s x) k) K l s = K (l.foldl g s)
  | [], _, _ => rfl
  | x :: xs, s, h => by
    obtain ⟨h1, h2⟩ := hm x xs s h
    rw [foldK, h1, bnd1_mk, foldK_get P hm xs _ h2, List.foldl_cons]
/-- The first one that stops. -/
theorem foldK_find {σ α ρ : Type} (p : α → Bool) (R : α → Option ρ) (K : σ → Option ρ) (s : σ) : ∀ l : List α, foldK (fun s x k => if p x then R x else k s) K l s = match l.find? p with | some x => R x | none => K s
  | [] => rfl
  | x :: xs => by
    rw [foldK]
    cases hp : p x with
    | true => simp [List.find?_cons, hp]
    | false => simp only [Bool.false_eq_true, if_false, List.find?_cons, hp]; exact foldK_find p R K s xs
theorem foldK_any {σ α ρ : Type} (p : α → Bool) (R : Option ρ) (K : σ → Option ρ) (s : σ) : ∀ l : List α, foldK (fun s x k => if p x then R else k s) K l s = if l.any p then R else K s
  | [] => rfl
  | x :: xs => by
    rw [foldK]
    cases hp : p x with
    | true => simp [hp]
    | false => simp only [Bool.false_eq_true, if_false, List.any_cons, hp, Bool.false_or]; exact foldK_any p R K s xs
/-- What is kept is appended. -/
theorem foldK_app {α β ρ : Type} (p : α → Bool) (g : α → β) (K : List β → Option ρ) : ∀ (l : List α) (r : List β), r.length + l.length ≤ 137438953472 →
    foldK (fun r x k => if p x then need (List.length r + 1 ≤ 137438953472) (k (r ++ [g x])) else k r) K l r = K (r ++ (l.filter p).map g)
  | [], r, _ => by simp [foldK]
  | x :: xs, r, h => by
    simp only [List.length_cons] at h
    rw [foldK]
    cases hp : p x with
    | true => simp only [if_true]; rw [need_pos (by omega), foldK_app p g K xs _ (by simp; omega)]; simp [hp]
    | false => simp only [Bool.false_eq_true, if_false]; rw [foldK_app p g K xs r (by omega)]; simp [hp]

/-! ### Without repetitions -/
section
variable {α : Type} [DecidableEq α]
def cstep (r : List α) (x : α) : List α := if r.getLast? = some x then r else r ++ [x]
/-- Without what equals what stands before it. -/
def compactL (l : List α) : List α := l.foldl cstep []
theorem compactL_snoc (l : List α) (x : α) : compactL (l ++ [x]) = cstep (compactL l) x := by simp [compactL]
theorem compactL_last (l : List α) : (compactL l).getLast? = l.getLast? := by
  rcases List.eq_nil_or_concat l with rfl | ⟨t, x, rfl⟩
  · rfl
  · rw [List.concat_eq_append, compactL_snoc, cstep]
    split
    · rename_i h; rw [h]; simp
    · simp
theorem compactL_mem (l : List α) (x : α) : x ∈ compactL l ↔ x ∈ l := by
  have key : ∀ n (l : List α), l.length = n → (x ∈ compactL l ↔ x ∈ l) := by
    intro n
    induction n with
    | zero => intro l h; have := List.length_eq_zero_iff.1 h; subst this; simp [compactL]
    | succ n ih =>
      intro l h
      rcases List.eq_nil_or_concat l with rfl | ⟨t, y, rfl⟩
      · simp [compactL]
      · rw [List.concat_eq_append] at h ⊢
        simp at h
        rw [compactL_snoc, cstep]
        split
        · rename_i he
          rw [ih t h]
          rw [compactL_last] at he
          have : y ∈ t := List.mem_of_getLast? he
          constructor
          · intro hx; simp [hx]
          · intro hx
            rcases List.mem_append.1 hx with h1 | h1
            · exact h1
            · rw [List.mem_singleton.1 h1]; exact this
        · simp [ih t h]
  exact key l.length l rfl
theorem compactL_len (l : List α) : (compactL l).length ≤ l.length := by
  have key : ∀ n (l : List α), l.length = n → (compactL l).length ≤ l.length := by
    intro n
    induction n with
    | zero => intro l h; have := List.length_eq_zero_iff.1 h; subst this; simp [compactL]
    | succ n ih =>
      intro l h
      rcases List.eq_nil_or_concat l with rfl | ⟨t, y, rfl⟩
      · simp [compactL]
      · rw [List.concat_eq_append] at h ⊢
        simp at h
        have := ih t h
        rw [compactL_snoc, cstep]
        split <;> simp <;> omega
  exact key l.length l rfl
theorem compactL_sorted {lt : α → α → Prop} (hirr : ∀ a, ¬ lt a a) (ht : ∀ {a b c}, lt a b → lt b c → lt a c) (l : List α) (h : l.Pairwise (fun a b => a = b ∨ lt a b)) : (compactL l).Pairwise lt := by
  have key : ∀ n (l : List α), l.length = n → l.Pairwise (fun a b => a = b ∨ lt a b) → (compactL l).Pairwise lt := by
    intro n
    induction n with
    | zero => intro l h; have := List.length_eq_zero_iff.1 h; subst this; simp [compactL]
    | succ n ih =>
      intro l h hp
      rcases List.eq_nil_or_concat l with rfl | ⟨t, y, rfl⟩
      · simp [compactL]
      · rw [List.concat_eq_append] at h hp ⊢
        simp at h
        obtain ⟨p1, _, p3⟩ := List.pairwise_append.1 hp
        have hc := ih t h p1
        rw [compactL_snoc, cstep]
        split
        · exact hc
        · rename_i hne
          rw [List.pairwise_append]
          refine ⟨hc, by simp, fun a ha b hb => ?_⟩
          obtain rfl := List.mem_singleton.1 hb
          have ha' := (compactL_mem t a).1 ha
          rcases p3 a ha' b (by simp) with h1 | h1
          · subst h1
            exfalso
            rcases List.eq_nil_or_concat t with rfl | ⟨u, z, rfl⟩
            · cases ha'
            · rw [List.concat_eq_append] at *
              have hz : (compactL (u ++ [z])).getLast? = some z := by rw [compactL_last]; simp
              have hza : z ≠ a := fun e => hne (by rw [hz, e])
              have hlast : ∃ v, compactL (u ++ [z]) = v ++ [z] := by
                rcases List.eq_nil_or_concat (compactL (u ++ [z])) with e | ⟨v, q, e⟩
                · rw [e] at hz; cases hz
                · rw [List.concat_eq_append] at e; rw [e] at hz; simp at hz; exact ⟨v, by rw [e, hz]⟩
              obtain ⟨v, hv⟩ := hlast
              rw [hv] at ha hc
              rcases List.mem_append.1 ha with h2 | h2
              · have h3 := (List.pairwise_append.1 hc).2.2 a h2 z (by simp)
                rcases p3 z (by simp) a (by simp) with h4 | h4
                · exact hza h4
                · have : lt a a := ht h3 h4
                  exact hirr _ this
              · exact hza (List.mem_singleton.1 h2).symm
          · exact h1
  exact key l.length l rfl h
end
/-- Two strictly ascending lists of the same members. -/
theorem SL_ext {α : Type} {lt : α → α → Prop} (hirr : ∀ a, ¬ lt a a) (ht : ∀ {a b c}, lt a b → lt b c → lt a c) : ∀ {a b : List α}, a.Pairwise lt → b.Pairwise lt → (∀ x, x ∈ a ↔ x ∈ b) → a = b
  | [], [], _, _, _ => rfl
  | [], y :: b, _, _, h => by have := (h y).2 (by simp); cases this
  | x :: a, [], _, _, h => by have := (h x).1 (by simp); cases this
  | x :: a, y :: b, h1, h2, h => by
    obtain ⟨p1, p2⟩ := List.pairwise_cons.1 h1
    obtain ⟨q1, q2⟩ := List.pairwise_cons.1 h2
    have hxy : x = y := by
      rcases List.mem_cons.1 ((h x).1 (by simp)) with e | e
      · exact e
      · rcases List.mem_cons.1 ((h y).2 (by simp)) with e' | e'
        · exact e'.symm
        · exact absurd (ht (q1 x e) (p1 y e')) (hirr _)
    subst hxy
    congr 1
    refine SL_ext hirr ht p2 q2 fun z => ⟨fun hz => ?_, fun hz => ?_⟩
    · rcases List.mem_cons.1 ((h z).1 (by simp [hz])) with e | e
      · subst e; exact absurd (p1 z hz) (hirr _)
      · exact e
    · rcases List.mem_cons.1 ((h z).2 (by simp [hz])) with e | e
      · subst e; exact absurd (q1 z hz) (hirr _)
      · exact e
end Go.Proofs.Ytkplmgdmkfgjhaa
