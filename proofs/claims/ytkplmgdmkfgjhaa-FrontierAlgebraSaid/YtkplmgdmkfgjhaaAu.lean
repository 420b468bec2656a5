/- No run draws back: the tape's place never falls. -/
import Derived.WalkKit
import Derived.RowKit3
namespace Go.Proofs.Ytkplmgdmkfgjhaa
theorem ask_drawn {α : Type} : ∀ (k : Ask α) (w : World), w.drawn ≤ (w.ask k).2.drawn := by
  intro k
  induction k with
  | done a => intro w; exact Nat.le_refl _
  | ask what range k ih =>
    intro w
    rw [World.ask]
    split
    · exact ih _ _
    · exact Nat.le_trans (Nat.le_succ _) (ih _ { w with drawn := w.drawn + 1 })
theorem sys_drawn (w : World) (c : Sys) : w.drawn ≤ (w.sys c).2.drawn := by
  have h := ask_drawn (Kernel.perform c w.os) w
  unfold World.sys
  revert h
  generalize w.ask (Kernel.perform c w.os) = r
  intro h
  split
  · exact Nat.le_refl _
  · exact h
theorem ebind_ok {ε α β : Type} {x : Except ε α} {f : α → Except ε β} {b : β} (h : x >>= f = .ok b) : ∃ a, x = .ok a ∧ f a = .ok b := by
  cases x with
  | error e => cases h
  | ok a => exact ⟨a, rfl, h⟩
theorem view_drawn {P : Program} {w : World} {at_ : Addr} {u : TypeId} {k : Addr} {v : Value} {b : Bool} {r : World × List Addr} (h : w.viewStore P at_ u k v b = .ok r) : w.drawn ≤ r.1.drawn := by
  unfold World.viewStore at h
  dsimp only at h
  split at h
  · obtain ⟨_, h0, _⟩ := ebind_ok h
    cases h0
  · obtain ⟨⟨c, e, frozen, first, like, cells⟩, _, h⟩ := ebind_ok h
    dsimp only at h
    split at h
    · split at h
      · obtain ⟨_, h0, _⟩ := ebind_ok h
        cases h0
      · obtain ⟨c', _, h⟩ := ebind_ok h
        cases h
        exact Nat.le_refl _
    · cases h
theorem far_drawn {P : Program} {w : World} {a : Addr} {v : Value} {b : Bool} {r : World × List Addr} (h : w.farStore P a v b = .ok r) : w.drawn ≤ r.1.drawn := by
  unfold World.farStore at h
  split at h
  · split at h
    · rename_i h1; cases h; exact view_drawn h1
    · cases h
  · cases h
theorem run_drawn {P : Program} {α : Type} : ∀ (m : Sem α) (w : World) (a : α) (w' : World), m.run P w = .ok a w' → w.drawn ≤ w'.drawn := by
  intro m
  induction m with
  | pure a => intro w b w' h; simp [Sem.run] at h; obtain ⟨rfl, rfl⟩ := h; exact Nat.le_refl _
  | halt e => intro w b w' h; simp [Sem.run] at h
  | load m a k ih =>
    intro w b w' h
    rw [Sem.run] at h
    split at h
    · exact ih _ _ _ _ h
    · split at h
      · exact ih _ _ _ _ h
      · cases h
  | store m a v k ih =>
    intro w b w' h
    have key : (match w.cell? a with | some _ => if w.frozen? a then Result.halt (.unsupported (.unsafePointer "a write to bytes that a string shares")) w else k.run P (w.setCell a v) | none => match w.farStore P a v (m == Mode.atomic) with | .ok (w, _) => k.run P w | .error h => .halt h w) = .ok b w' → w.drawn ≤ w'.drawn := by
      intro h
      split at h
      · split at h
        · cases h
        · exact (ih (w.setCell a v) _ _ h : (w.setCell a v).drawn ≤ _)
      · split at h
        · rename_i h1; exact Nat.le_trans (far_drawn h1) (ih _ _ _ h)
        · cases h
    cases v
    all_goals first | exact key h | (simp only [Sem.run] at h; first | exact key h | cases h)
  | new o k ih =>
    intro w b w' h
    rw [Sem.run] at h
    have := ih _ _ _ _ h
    exact this
  | shape r k ih => intro w b w' h; rw [Sem.run] at h; exact ih _ _ _ _ h
  | freeze a n k ih =>
    intro w b w' h
    rw [Sem.run] at h
    have := ih _ _ _ h
    have e : (w.freeze a n).drawn = w.drawn := by unfold World.freeze; split <;> rfl
    rwa [e] at this
  | frozen a k ih => intro w b w' h; rw [Sem.run] at h; exact ih _ _ _ _ h
  | getObj r k ih =>
    intro w b w' h
    rw [Sem.run] at h
    split at h
    · cases h
    · exact ih _ _ _ _ h
    · cases h
  | setObj r o k ih =>
    intro w b w' h
    rw [Sem.run] at h
    split at h
    · cases h
    · have := ih _ _ _ h
      exact this
    · cases h
  | choose q k ih =>
    intro w b w' h
    rw [Sem.run] at h
    split at h
    · exact ih _ _ _ _ h
    · exact Nat.le_trans (Nat.le_succ _) (ih _ _ _ _ h)
  | sys c k ih => intro w b w' h; rw [Sem.run] at h; exact Nat.le_trans (sys_drawn w c) (ih _ _ _ _ h)
  | program k ih => intro w b w' h; rw [Sem.run] at h; exact ih _ _ _ _ h
  | mark m k ih => intro w b w' h; rw [Sem.run] at h; exact ih _ _ _ h
end Go.Proofs.Ytkplmgdmkfgjhaa
