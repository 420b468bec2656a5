/- Things in use: order, typed rows, boxes; reading and writing them. -/
import Derived.Test.YtkplmgdmkfgjhaaCa
import Derived.Laws.CopyRow
namespace Go.Proofs.Ytkplmgdmkfgjhaa
open Go.RowKit

section
variable {P : Program} {ops : Array Oper} {E : Env} {N : Nat} {af : AF} {σ σ' ρ : Items} {F : BSet} {w w' : World}

/-! ### Their order does not matter -/
theorem own_perm (h : σ.Perm σ') (k : Nat) : Items.own σ k ↔ Items.own σ' k := (h.flatMap_right Item.own).mem_iff
theorem both_perm (h : σ.Perm σ') (k : Nat) : both F (Items.own σ) k ↔ both F (Items.own σ') k := or_congr Iff.rfl (own_perm h k)
theorem Good.perm (h : σ.Perm σ') (hg : Good F σ w) : Good F σ' w :=
  ⟨hg.fr, fun k hk => hg.own k ((own_perm h k).2 hk), ((h.flatMap_right Item.own).nodup_iff).1 hg.nodup, fun it hi => it.keep (Keeps.refl _ _) (fun k _ hk => (both_perm h k).2 hk) (hg.items it (h.mem_iff.2 hi))⟩
theorem SubU.perm (h : σ.Perm σ') : SubU af σ af σ' := fun E n a w hh =>
  ⟨hh.tmps, hh.defers, hh.kept, fun k hk hlt => hh.old k ((own_perm h k).2 hk) hlt, hh.good.perm h, fun t => (af t).keep (Keeps.refl _ _) (fun k _ hk => (both_perm h k).2 hk) (hh.fits t)⟩
theorem Loud.perm {o : Oper} {post : AV → Items → Prop} (h : σ.Perm σ') (hl : Loud P o af σ' post) : Loud P o af σ post := by
  intro F w ev hg hx
  have h1 := hl F w ev (hg.perm h) (fun x hx' => (af.ev x).keep (Keeps.refl _ _) (fun k _ hk => (both_perm h k).2 hk) (hx x hx'))
  have out : ∀ {v w'}, Out F σ' w post v w' → Out F σ w post v w' := fun ⟨av, s, a1, a2, a3, a4, a5⟩ => ⟨av, s, a1, a2, a3.mono (fun k _ hk => (own_perm h k).2 hk), fun k hk hlt => (own_perm h k).2 (a4 k hk hlt), a5⟩
  generalize (execOp ev o).run P w = r at h1
  cases r with
  | ok n w' =>
    cases n <;> simp only [Upon] at h1 ⊢ <;> try exact h1.elim
    case value v => exact out h1
    case skip => exact out h1
    case enter f args => exact h1.mono fun e w'' ⟨v, he, ho⟩ => ⟨v, he, out ho⟩
    case row r args => exact h1.mono fun v w'' ho => out ho
  | halt x w' => exact h1.elim
theorem Reads.perm {o : Oper} {av : AV} (h : σ.Perm σ') (hl : Reads P o af σ' av) : Reads P o af σ av := by
  intro F w ev hg hx
  have h1 := hl F w ev (hg.perm h) (fun x hx' => (af.ev x).keep (Keeps.refl _ _) (fun k _ hk => (both_perm h k).2 hk) (hx x hx'))
  have out : ∀ {v w'}, av.p (both F (Items.own σ')) w' v → av.p (both F (Items.own σ)) w' v := fun hp => av.keep (Keeps.refl _ _) (fun k _ hk => (both_perm h k).1 hk) hp
  generalize (execOp ev o).run P w = r at h1
  cases r with
  | ok n w' =>
    cases n <;> simp only [UponQ] at h1 ⊢ <;> try exact h1.elim
    case value v => exact ⟨h1.1, out h1.2⟩
    case skip => exact ⟨h1.1, out h1.2⟩
    case enter f args => exact h1.mono fun e w'' ⟨v, he, hk, ho⟩ => ⟨v, he, hk, out ho⟩
    case row r args => exact h1.mono fun v w'' ⟨hk, ho⟩ => ⟨hk, out ho⟩
  | halt x w' => exact h1.elim
theorem opB_perm {o : Oper} {K : AF → Items → Prop} (h : σ.Perm σ') (hb : opB P o af σ' K) : opB P o af σ K := by
  obtain ⟨post, h1, h2⟩ := hb
  exact ⟨post, h1.perm h, h2⟩
theorem opR_perm {o : Oper} {K : AF → Prop} (h : σ.Perm σ') (hb : opR P o af σ' K) : opR P o af σ K := by
  obtain ⟨av, h1, h2⟩ := hb
  exact ⟨av, h1.perm h, h2⟩
theorem fr1 (a0 a1 : Item) (ρ : Items) : (a0 :: a1 :: ρ).Perm (a1 :: a0 :: ρ) := by
  exact List.Perm.swap _ _ _
theorem opB_f1 {a0 a1 : Item} {o : Oper} {K : AF → Items → Prop} (h : opB P o af (a1 :: a0 :: ρ) K) : opB P o af (a0 :: a1 :: ρ) K := opB_perm (fr1 ..) h
theorem opR_f1 {a0 a1 : Item} {o : Oper} {K : AF → Prop} (h : opR P o af (a1 :: a0 :: ρ) K) : opR P o af (a0 :: a1 :: ρ) K := opR_perm (fr1 ..) h
theorem SubU.f1 {a0 a1 : Item} : SubU af (a0 :: a1 :: ρ) af (a1 :: a0 :: ρ) := SubU.perm (fr1 ..)
theorem fr2 (a0 a1 a2 : Item) (ρ : Items) : (a0 :: a1 :: a2 :: ρ).Perm (a2 :: a0 :: a1 :: ρ) := by
  exact ((fr1 a1 a2 ρ).cons a0).trans (List.Perm.swap _ _ _)
theorem opB_f2 {a0 a1 a2 : Item} {o : Oper} {K : AF → Items → Prop} (h : opB P o af (a2 :: a0 :: a1 :: ρ) K) : opB P o af (a0 :: a1 :: a2 :: ρ) K := opB_perm (fr2 ..) h
theorem opR_f2 {a0 a1 a2 : Item} {o : Oper} {K : AF → Prop} (h : opR P o af (a2 :: a0 :: a1 :: ρ) K) : opR P o af (a0 :: a1 :: a2 :: ρ) K := opR_perm (fr2 ..) h
theorem SubU.f2 {a0 a1 a2 : Item} : SubU af (a0 :: a1 :: a2 :: ρ) af (a2 :: a0 :: a1 :: ρ) := SubU.perm (fr2 ..)
theorem fr3 (a0 a1 a2 a3 : Item) (ρ : Items) : (a0 :: a1 :: a2 :: a3 :: ρ).Perm (a3 :: a0 :: a1 :: a2 :: ρ) := by
  exact ((fr2 a1 a2 a3 ρ).cons a0).trans (List.Perm.swap _ _ _)
theorem opB_f3 {a0 a1 a2 a3 : Item} {o : Oper} {K : AF → Items → Prop} (h : opB P o af (a3 :: a0 :: a1 :: a2 :: ρ) K) : opB P o af (a0 :: a1 :: a2 :: a3 :: ρ) K := opB_perm (fr3 ..) h
theorem opR_f3 {a0 a1 a2 a3 : Item} {o : Oper} {K : AF → Prop} (h : opR P o af (a3 :: a0 :: a1 :: a2 :: ρ) K) : opR P o af (a0 :: a1 :: a2 :: a3 :: ρ) K := opR_perm (fr3 ..) h
theorem SubU.f3 {a0 a1 a2 a3 : Item} : SubU af (a0 :: a1 :: a2 :: a3 :: ρ) af (a3 :: a0 :: a1 :: a2 :: ρ) := SubU.perm (fr3 ..)
theorem fr4 (a0 a1 a2 a3 a4 : Item) (ρ : Items) : (a0 :: a1 :: a2 :: a3 :: a4 :: ρ).Perm (a4 :: a0 :: a1 :: a2 :: a3 :: ρ) := by
  exact ((fr3 a1 a2 a3 a4 ρ).cons a0).trans (List.Perm.swap _ _ _)
theorem opB_f4 {a0 a1 a2 a3 a4 : Item} {o : Oper} {K : AF → Items → Prop} (h : opB P o af (a4 :: a0 :: a1 :: a2 :: a3 :: ρ) K) : opB P o af (a0 :: a1 :: a2 :: a3 :: a4 :: ρ) K := opB_perm (fr4 ..) h
theorem opR_f4 {a0 a1 a2 a3 a4 : Item} {o : Oper} {K : AF → Prop} (h : opR P o af (a4 :: a0 :: a1 :: a2 :: a3 :: ρ) K) : opR P o af (a0 :: a1 :: a2 :: a3 :: a4 :: ρ) K := opR_perm (fr4 ..) h
theorem SubU.f4 {a0 a1 a2 a3 a4 : Item} : SubU af (a0 :: a1 :: a2 :: a3 :: a4 :: ρ) af (a4 :: a0 :: a1 :: a2 :: a3 :: ρ) := SubU.perm (fr4 ..)
theorem fr5 (a0 a1 a2 a3 a4 a5 : Item) (ρ : Items) : (a0 :: a1 :: a2 :: a3 :: a4 :: a5 :: ρ).Perm (a5 :: a0 :: a1 :: a2 :: a3 :: a4 :: ρ) := by
  exact ((fr4 a1 a2 a3 a4 a5 ρ).cons a0).trans (List.Perm.swap _ _ _)
theorem opB_f5 {a0 a1 a2 a3 a4 a5 : Item} {o : Oper} {K : AF → Items → Prop} (h : opB P o af (a5 :: a0 :: a1 :: a2 :: a3 :: a4 :: ρ) K) : opB P o af (a0 :: a1 :: a2 :: a3 :: a4 :: a5 :: ρ) K := opB_perm (fr5 ..) h
theorem opR_f5 {a0 a1 a2 a3 a4 a5 : Item} {o : Oper} {K : AF → Prop} (h : opR P o af (a5 :: a0 :: a1 :: a2 :: a3 :: a4 :: ρ) K) : opR P o af (a0 :: a1 :: a2 :: a3 :: a4 :: a5 :: ρ) K := opR_perm (fr5 ..) h
theorem SubU.f5 {a0 a1 a2 a3 a4 a5 : Item} : SubU af (a0 :: a1 :: a2 :: a3 :: a4 :: a5 :: ρ) af (a5 :: a0 :: a1 :: a2 :: a3 :: a4 :: ρ) := SubU.perm (fr5 ..)
theorem fr6 (a0 a1 a2 a3 a4 a5 a6 : Item) (ρ : Items) : (a0 :: a1 :: a2 :: a3 :: a4 :: a5 :: a6 :: ρ).Perm (a6 :: a0 :: a1 :: a2 :: a3 :: a4 :: a5 :: ρ) := by
  exact ((fr5 a1 a2 a3 a4 a5 a6 ρ).cons a0).trans (List.Perm.swap _ _ _)
theorem opB_f6 {a0 a1 a2 a3 a4 a5 a6 : Item} {o : Oper} {K : AF → Items → Prop} (h : opB P o af (a6 :: a0 :: a1 :: a2 :: a3 :: a4 :: a5 :: ρ) K) : opB P o af (a0 :: a1 :: a2 :: a3 :: a4 :: a5 :: a6 :: ρ) K := opB_perm (fr6 ..) h
theorem opR_f6 {a0 a1 a2 a3 a4 a5 a6 : Item} {o : Oper} {K : AF → Prop} (h : opR P o af (a6 :: a0 :: a1 :: a2 :: a3 :: a4 :: a5 :: ρ) K) : opR P o af (a0 :: a1 :: a2 :: a3 :: a4 :: a5 :: a6 :: ρ) K := opR_perm (fr6 ..) h
theorem SubU.f6 {a0 a1 a2 a3 a4 a5 a6 : Item} : SubU af (a0 :: a1 :: a2 :: a3 :: a4 :: a5 :: a6 :: ρ) af (a6 :: a0 :: a1 :: a2 :: a3 :: a4 :: a5 :: ρ) := SubU.perm (fr6 ..)
theorem fr7 (a0 a1 a2 a3 a4 a5 a6 a7 : Item) (ρ : Items) : (a0 :: a1 :: a2 :: a3 :: a4 :: a5 :: a6 :: a7 :: ρ).Perm (a7 :: a0 :: a1 :: a2 :: a3 :: a4 :: a5 :: a6 :: ρ) := by
  exact ((fr6 a1 a2 a3 a4 a5 a6 a7 ρ).cons a0).trans (List.Perm.swap _ _ _)
theorem opB_f7 {a0 a1 a2 a3 a4 a5 a6 a7 : Item} {o : Oper} {K : AF → Items → Prop} (h : opB P o af (a7 :: a0 :: a1 :: a2 :: a3 :: a4 :: a5 :: a6 :: ρ) K) : opB P o af (a0 :: a1 :: a2 :: a3 :: a4 :: a5 :: a6 :: a7 :: ρ) K := opB_perm (fr7 ..) h
theorem opR_f7 {a0 a1 a2 a3 a4 a5 a6 a7 : Item} {o : Oper} {K : AF → Prop} (h : opR P o af (a7 :: a0 :: a1 :: a2 :: a3 :: a4 :: a5 :: a6 :: ρ) K) : opR P o af (a0 :: a1 :: a2 :: a3 :: a4 :: a5 :: a6 :: a7 :: ρ) K := opR_perm (fr7 ..) h
theorem SubU.f7 {a0 a1 a2 a3 a4 a5 a6 a7 : Item} : SubU af (a0 :: a1 :: a2 :: a3 :: a4 :: a5 :: a6 :: a7 :: ρ) af (a7 :: a0 :: a1 :: a2 :: a3 :: a4 :: a5 :: a6 :: ρ) := SubU.perm (fr7 ..)
theorem fr8 (a0 a1 a2 a3 a4 a5 a6 a7 a8 : Item) (ρ : Items) : (a0 :: a1 :: a2 :: a3 :: a4 :: a5 :: a6 :: a7 :: a8 :: ρ).Perm (a8 :: a0 :: a1 :: a2 :: a3 :: a4 :: a5 :: a6 :: a7 :: ρ) := by
  exact ((fr7 a1 a2 a3 a4 a5 a6 a7 a8 ρ).cons a0).trans (List.Perm.swap _ _ _)
theorem opB_f8 {a0 a1 a2 a3 a4 a5 a6 a7 a8 : Item} {o : Oper} {K : AF → Items → Prop} (h : opB P o af (a8 :: a0 :: a1 :: a2 :: a3 :: a4 :: a5 :: a6 :: a7 :: ρ) K) : opB P o af (a0 :: a1 :: a2 :: a3 :: a4 :: a5 :: a6 :: a7 :: a8 :: ρ) K := opB_perm (fr8 ..) h
theorem opR_f8 {a0 a1 a2 a3 a4 a5 a6 a7 a8 : Item} {o : Oper} {K : AF → Prop} (h : opR P o af (a8 :: a0 :: a1 :: a2 :: a3 :: a4 :: a5 :: a6 :: a7 :: ρ) K) : opR P o af (a0 :: a1 :: a2 :: a3 :: a4 :: a5 :: a6 :: a7 :: a8 :: ρ) K := opR_perm (fr8 ..) h
theorem SubU.f8 {a0 a1 a2 a3 a4 a5 a6 a7 a8 : Item} : SubU af (a0 :: a1 :: a2 :: a3 :: a4 :: a5 :: a6 :: a7 :: a8 :: ρ) af (a8 :: a0 :: a1 :: a2 :: a3 :: a4 :: a5 :: a6 :: a7 :: ρ) := SubU.perm (fr8 ..)
theorem fr9 (a0 a1 a2 a3 a4 a5 a6 a7 a8 a9 : Item) (ρ : Items) : (a0 :: a1 :: a2 :: a3 :: a4 :: a5 :: a6 :: a7 :: a8 :: a9 :: ρ).Perm (a9 :: a0 :: a1 :: a2 :: a3 :: a4 :: a5 :: a6 :: a7 :: a8 :: ρ) := by
  exact ((fr8 a1 a2 a3 a4 a5 a6 a7 a8 a9 ρ).cons a0).trans (List.Perm.swap _ _ _)
theorem opB_f9 {a0 a1 a2 a3 a4 a5 a6 a7 a8 a9 : Item} {o : Oper} {K : AF → Items → Prop} (h : opB P o af (a9 :: a0 :: a1 :: a2 :: a3 :: a4 :: a5 :: a6 :: a7 :: a8 :: ρ) K) : opB P o af (a0 :: a1 :: a2 :: a3 :: a4 :: a5 :: a6 :: a7 :: a8 :: a9 :: ρ) K := opB_perm (fr9 ..) h
theorem opR_f9 {a0 a1 a2 a3 a4 a5 a6 a7 a8 a9 : Item} {o : Oper} {K : AF → Prop} (h : opR P o af (a9 :: a0 :: a1 :: a2 :: a3 :: a4 :: a5 :: a6 :: a7 :: a8 :: ρ) K) : opR P o af (a0 :: a1 :: a2 :: a3 :: a4 :: a5 :: a6 :: a7 :: a8 :: a9 :: ρ) K := opR_perm (fr9 ..) h
theorem SubU.f9 {a0 a1 a2 a3 a4 a5 a6 a7 a8 a9 : Item} : SubU af (a0 :: a1 :: a2 :: a3 :: a4 :: a5 :: a6 :: a7 :: a8 :: a9 :: ρ) af (a9 :: a0 :: a1 :: a2 :: a3 :: a4 :: a5 :: a6 :: a7 :: a8 :: ρ) := SubU.perm (fr9 ..)
theorem fr10 (a0 a1 a2 a3 a4 a5 a6 a7 a8 a9 a10 : Item) (ρ : Items) : (a0 :: a1 :: a2 :: a3 :: a4 :: a5 :: a6 :: a7 :: a8 :: a9 :: a10 :: ρ).Perm (a10 :: a0 :: a1 :: a2 :: a3 :: a4 :: a5 :: a6 :: a7 :: a8 :: a9 :: ρ) := by
  exact ((fr9 a1 a2 a3 a4 a5 a6 a7 a8 a9 a10 ρ).cons a0).trans (List.Perm.swap _ _ _)
theorem opB_f10 {a0 a1 a2 a3 a4 a5 a6 a7 a8 a9 a10 : Item} {o : Oper} {K : AF → Items → Prop} (h : opB P o af (a10 :: a0 :: a1 :: a2 :: a3 :: a4 :: a5 :: a6 :: a7 :: a8 :: a9 :: ρ) K) : opB P o af (a0 :: a1 :: a2 :: a3 :: a4 :: a5 :: a6 :: a7 :: a8 :: a9 :: a10 :: ρ) K := opB_perm (fr10 ..) h
theorem opR_f10 {a0 a1 a2 a3 a4 a5 a6 a7 a8 a9 a10 : Item} {o : Oper} {K : AF → Prop} (h : opR P o af (a10 :: a0 :: a1 :: a2 :: a3 :: a4 :: a5 :: a6 :: a7 :: a8 :: a9 :: ρ) K) : opR P o af (a0 :: a1 :: a2 :: a3 :: a4 :: a5 :: a6 :: a7 :: a8 :: a9 :: a10 :: ρ) K := opR_perm (fr10 ..) h
theorem SubU.f10 {a0 a1 a2 a3 a4 a5 a6 a7 a8 a9 a10 : Item} : SubU af (a0 :: a1 :: a2 :: a3 :: a4 :: a5 :: a6 :: a7 :: a8 :: a9 :: a10 :: ρ) af (a10 :: a0 :: a1 :: a2 :: a3 :: a4 :: a5 :: a6 :: a7 :: a8 :: a9 :: ρ) := SubU.perm (fr10 ..)
theorem fr11 (a0 a1 a2 a3 a4 a5 a6 a7 a8 a9 a10 a11 : Item) (ρ : Items) : (a0 :: a1 :: a2 :: a3 :: a4 :: a5 :: a6 :: a7 :: a8 :: a9 :: a10 :: a11 :: ρ).Perm (a11 :: a0 :: a1 :: a2 :: a3 :: a4 :: a5 :: a6 :: a7 :: a8 :: a9 :: a10 :: ρ) := by
  exact ((fr10 a1 a2 a3 a4 a5 a6 a7 a8 a9 a10 a11 ρ).cons a0).trans (List.Perm.swap _ _ _)
theorem opB_f11 {a0 a1 a2 a3 a4 a5 a6 a7 a8 a9 a10 a11 : Item} {o : Oper} {K : AF → Items → Prop} (h : opB P o af (a11 :: a0 :: a1 :: a2 :: a3 :: a4 :: a5 :: a6 :: a7 :: a8 :: a9 :: a10 :: ρ) K) : opB P o af (a0 :: a1 :: a2 :: a3 :: a4 :: a5 :: a6 :: a7 :: a8 :: a9 :: a10 :: a11 :: ρ) K := opB_perm (fr11 ..) h
theorem opR_f11 {a0 a1 a2 a3 a4 a5 a6 a7 a8 a9 a10 a11 : Item} {o : Oper} {K : AF → Prop} (h : opR P o af (a11 :: a0 :: a1 :: a2 :: a3 :: a4 :: a5 :: a6 :: a7 :: a8 :: a9 :: a10 :: ρ) K) : opR P o af (a0 :: a1 :: a2 :: a3 :: a4 :: a5 :: a6 :: a7 :: a8 :: a9 :: a10 :: a11 :: ρ) K := opR_perm (fr11 ..) h
theorem SubU.f11 {a0 a1 a2 a3 a4 a5 a6 a7 a8 a9 a10 a11 : Item} : SubU af (a0 :: a1 :: a2 :: a3 :: a4 :: a5 :: a6 :: a7 :: a8 :: a9 :: a10 :: a11 :: ρ) af (a11 :: a0 :: a1 :: a2 :: a3 :: a4 :: a5 :: a6 :: a7 :: a8 :: a9 :: a10 :: ρ) := SubU.perm (fr11 ..)
theorem fr12 (a0 a1 a2 a3 a4 a5 a6 a7 a8 a9 a10 a11 a12 : Item) (ρ : Items) : (a0 :: a1 :: a2 :: a3 :: a4 :: a5 :: a6 :: a7 :: a8 :: a9 :: a10 :: a11 :: a12 :: ρ).Perm (a12 :: a0 :: a1 :: a2 :: a3 :: a4 :: a5 :: a6 :: a7 :: a8 :: a9 :: a10 :: a11 :: ρ) := by
  exact ((fr11 a1 a2 a3 a4 a5 a6 a7 a8 a9 a10 a11 a12 ρ).cons a0).trans (List.Perm.swap _ _ _)
theorem opB_f12 {a0 a1 a2 a3 a4 a5 a6 a7 a8 a9 a10 a11 a12 : Item} {o : Oper} {K : AF → Items → Prop} (h : opB P o af (a12 :: a0 :: a1 :: a2 :: a3 :: a4 :: a5 :: a6 :: a7 :: a8 :: a9 :: a10 :: a11 :: ρ) K) : opB P o af (a0 :: a1 :: a2 :: a3 :: a4 :: a5 :: a6 :: a7 :: a8 :: a9 :: a10 :: a11 :: a12 :: ρ) K := opB_perm (fr12 ..) h
theorem opR_f12 {a0 a1 a2 a3 a4 a5 a6 a7 a8 a9 a10 a11 a12 : Item} {o : Oper} {K : AF → Prop} (h : opR P o af (a12 :: a0 :: a1 :: a2 :: a3 :: a4 :: a5 :: a6 :: a7 :: a8 :: a9 :: a10 :: a11 :: ρ) K) : opR P o af (a0 :: a1 :: a2 :: a3 :: a4 :: a5 :: a6 :: a7 :: a8 :: a9 :: a10 :: a11 :: a12 :: ρ) K := opR_perm (fr12 ..) h
theorem SubU.f12 {a0 a1 a2 a3 a4 a5 a6 a7 a8 a9 a10 a11 a12 : Item} : SubU af (a0 :: a1 :: a2 :: a3 :: a4 :: a5 :: a6 :: a7 :: a8 :: a9 :: a10 :: a11 :: a12 :: ρ) af (a12 :: a0 :: a1 :: a2 :: a3 :: a4 :: a5 :: a6 :: a7 :: a8 :: a9 :: a10 :: a11 :: ρ) := SubU.perm (fr12 ..)

theorem SubU.to {af' : AF} {n : Nat} (h : SubU af σ af' σ') : Sub E n af σ af' σ' := h E n
theorem SubU.of_le {af' : AF} (h : AF.le af af') : SubU af σ af' σ := fun _ _ => Sub.of_le h
theorem SubU.trans {a b c : AF} {s1 s2 s3 : Items} (h : SubU a s1 b s2) (h' : SubU b s2 c s3) : SubU a s1 c s3 := fun E n x w hh => h' E n x w (h E n x w hh)
theorem SubU.refl : SubU af σ af σ := fun _ _ _ _ hh => hh
/-- A thing is in use no more. -/
theorem SubU.drop {it : Item} : SubU af (it :: σ) af σ := by
  intro E n a w hh
  have hM : ∀ k, k < w.heap.size → both E.F (Items.own σ) k → both E.F (Items.own (it :: σ)) k := fun k _ h => h.imp id (fun h => own_cons.2 (.inr h))
  have hnd := hh.good.nodup
  rw [List.flatMap_cons, List.nodup_append] at hnd
  exact ⟨hh.tmps, hh.defers, hh.kept, fun k h hlt => hh.old k (own_cons.2 (.inr h)) hlt, ⟨hh.good.fr, fun k h => hh.good.own k (own_cons.2 (.inr h)), hnd.2.1, fun x hi => x.keep (Keeps.refl _ _) hM (hh.good.items x (List.mem_cons_of_mem _ hi))⟩, fun t => (af t).keep (Keeps.refl _ _) hM (hh.fits t)⟩

/-! ### Boxes: variables in memory -/
def boxI (t : TypeId) (b : Nat) (c : List AV) : Item where
  own := [b]
  p := fun M w => ∃ vs : List Value, w.heap[b]? = some (.cells vs.toArray t (0, 0)) ∧ Fit M w c vs
  keep := fun {M M' w w'} hk hm ⟨vs, h1, h2⟩ => by
    refine ⟨vs, ?_, h2.keep (hk.mono (fun k _ h => h.1)) hm⟩
    rw [hk.block b (Array.getElem?_eq_some_iff.1 h1).1 (fun h => h.2 (by simp))]
    exact h1
abbrev pA (b o : Nat) : AV := .exact (.pointer (some ⟨b, o, none⟩))

theorem Fit.drop {M : BSet} : ∀ {l : List AV} {vs : List Value} (i : Nat), Fit M w l vs → Fit M w (l.drop i) (vs.drop i)
  | [], [], _, _ => by simp; trivial
  | _ :: _, _ :: _, 0, h => h
  | _ :: l, _ :: vs, i + 1, h => by simpa using Fit.drop i h.2
theorem Fit.take {M : BSet} : ∀ {l : List AV} {vs : List Value} (i : Nat), Fit M w l vs → Fit M w (l.take i) (vs.take i)
  | [], [], _, _ => by simp; trivial
  | _ :: _, _ :: _, 0, _ => trivial
  | _ :: l, _ :: vs, i + 1, h => ⟨h.1, Fit.take i h.2⟩

variable {d : Option Tmp} {ty : TypeId} {pos : String} {after : Array Edge} {g : Option (Nat × Bool)} {t e : TypeId} {x y : Operand}

/-- The cells of a new variable fit what is said of them. -/
theorem LEs.fit_le {M : BSet} {xs ys : List AV} {vs : List Value} (h : LEs xs ys) (hf : Fit M w xs vs) : Fit M w ys vs := LE_fit h hf
theorem fit_exact {M : BSet} : ∀ (vs : List Value), Fit M w (vs.map AV.exact) vs
  | [] => trivial
  | _ :: vs => ⟨rfl, fit_exact vs⟩
/-- A new block. -/
theorem good_new {it : Item} {o : Obj} (hg : Good F σ w) (ho : it.own = [w.heap.size]) (hp : it.p (both F (Items.own (it :: σ))) (w.alloc o)) : Good F (it :: σ) (w.alloc o) ∧ Keeps noB w (w.alloc o) := by
  have hk0 : Keeps noB w (w.alloc o) := ⟨rfl, rfl, rfl, Nat.le_refl _, by simp, fun k hlt _ => heap_alloc_old w _ hlt⟩
  refine ⟨⟨fun k h => Nat.lt_of_lt_of_le (hg.fr k h) hk0.size, fun k h => ?_, ?_, fun x hx => ?_⟩, hk0⟩
  · rcases own_cons.1 h with h | h
    · rw [ho] at h
      obtain rfl : k = w.heap.size := by simpa using h
      exact ⟨by simp, fun hF => Nat.lt_irrefl _ (hg.fr _ hF)⟩
    · exact ⟨Nat.lt_of_lt_of_le (hg.own k h).1 hk0.size, (hg.own k h).2⟩
  · rw [List.flatMap_cons, List.nodup_append]
    refine ⟨by rw [ho]; simp, hg.nodup, fun a ha b hb hab => ?_⟩
    subst hab
    rw [ho] at ha
    obtain rfl : a = w.heap.size := by simpa using ha
    exact Nat.lt_irrefl _ (hg.own _ hb).1
  · rcases List.mem_cons.1 hx with rfl | hx
    · exact hp
    · refine x.keep (hk0.mono (fun k _ h => h.elim)) (fun k hlt hk => ?_) (hg.items x hx)
      refine hk.imp id (fun hk => ?_)
      rcases own_cons.1 hk with hk | hk
      · rw [ho] at hk
        obtain rfl : k = w.heap.size := by simpa using hk
        exact absurd hlt (Nat.lt_irrefl _)
      · exact hk
theorem out_new {it : Item} {o : Obj} {post : AV → Items → Prop} {v : Value} {av : AV} (hg : Good F σ w) (ho : it.own = [w.heap.size]) (hp : ∀ M, (∀ k, k < w.heap.size → M k → both F (Items.own σ) k) → it.p M (w.alloc o)) (hav : ∀ M, av.p M (w.alloc o) v) (hpost : post av (it :: σ)) : Out F σ w post v (w.alloc o) := by
  obtain ⟨h1, h2⟩ := good_new (o := o) hg ho (hp _ (fun k hlt hk => by
    refine hk.imp id (fun hk => ?_)
    rcases own_cons.1 hk with hk | hk
    · rw [ho] at hk
      obtain rfl : k = w.heap.size := by simpa using hk
      exact absurd hlt (Nat.lt_irrefl _)
    · exact hk))
  refine ⟨av, it :: σ, hpost, h1, h2.mono (fun k _ h => h.elim), fun k hk hlt => ?_, hav _⟩
  rcases own_cons.1 hk with hk | hk
  · rw [ho] at hk
    obtain rfl : k = w.heap.size := by simpa using hk
    exact absurd hlt (Nat.lt_irrefl _)
  · exact hk

theorem loud_alloc {z : Value} {c : List AV} (hz : (P.info? t).bind (·.zero) = some z) (hc : LEs (z.cells.toList.map AV.exact) c) :
    Loud P ⟨d, .alloc t, ty, pos, after, g⟩ af σ (fun a s => ∃ b, a = pA b 0 ∧ s = boxI t b c :: σ) := by
  intro F w ev hg h
  have hrun : (execOp ev ⟨d, .alloc t, ty, pos, after, g⟩).run P w = .ok (.value (.pointer (some ⟨w.heap.size, 0, none⟩))) (w.alloc (.cells z.cells t)) := by
    unfold execOp Instr.alloc
    simp only [Sem.run_bind, run_zero hz, Result.andThen_ok]
    simp [newVar, newRow, go_sem]
  rw [hrun]
  have hb : (w.alloc (.cells z.cells t)).heap[w.heap.size]? = some (.cells z.cells t (0, 0)) := heap_alloc_new w _
  exact out_new (it := boxI t w.heap.size c) hg rfl (fun M hM => ⟨z.cells.toList, by simpa using hb, LE_fit hc (fit_exact _)⟩) (fun M => rfl) ⟨_, rfl, rfl⟩
theorem op_alloc {z : Value} {K : AF → Items → Prop} {c : List AV} (hz : (P.info? t).bind (·.zero) = some z) (hc : LEs (z.cells.toList.map AV.exact) c) (hk : ∀ b, K (af.put d (pA b 0)) (boxI t b c :: σ)) : opB P ⟨d, .alloc t, ty, pos, after, g⟩ af σ K :=
  ⟨_, loud_alloc hz hc, fun av s ⟨b, e1, e2⟩ => by subst e1 e2; exact hk b⟩
theorem loud_box {a : AV} {c c' : List AV} (hx : af.ev x = a) (hc : CellsOf a c') (hl : LEs c' c) : Loud P ⟨d, .box t x, ty, pos, after, g⟩ af σ (fun a s => ∃ b, a = pA b 0 ∧ s = boxI t b c :: σ) := by
  intro F w ev hg h
  obtain ⟨vs, h1, h2⟩ := hc _ w _ (opnd_p h (x := x) (by simp [Op.operands]) hx)
  have hrun : (execOp ev ⟨d, .box t x, ty, pos, after, g⟩).run P w = .ok (.value (.pointer (some ⟨w.heap.size, 0, none⟩))) (w.alloc (.cells (ev x).cells t)) := by
    simp [execOp, Instr.box, newVar, newRow, go_sem]
  rw [hrun, h1]
  have hb : (w.alloc (.cells vs.toArray t)).heap[w.heap.size]? = some (.cells vs.toArray t (0, 0)) := heap_alloc_new w _
  refine out_new (it := boxI t w.heap.size c) hg rfl (fun M hM => ⟨vs, hb, LE_fit hl (h2.keep (w := w) ?_ hM)⟩) (fun M => rfl) ⟨_, rfl, rfl⟩
  exact ⟨rfl, rfl, rfl, Nat.le_refl _, by simp, fun k hlt _ => heap_alloc_old w _ hlt⟩
theorem op_boxI {a : AV} {c c' : List AV} {K : AF → Items → Prop} (hx : af.ev x = a) (hc : CellsOf a c') (hl : LEs c' c) (hk : ∀ b, K (af.put d (pA b 0)) (boxI t b c :: σ)) : opB P ⟨d, .box t x, ty, pos, after, g⟩ af σ K :=
  ⟨_, loud_box hx hc hl, fun av s ⟨b, e1, e2⟩ => by subst e1 e2; exact hk b⟩

theorem addr_at (b off j : Nat) : (⟨b, off, none⟩ : Addr).add j = ⟨b, off + j, none⟩ := addr_add' b off j
/-- Addresses in variables. -/
theorem op_nilCheck {b o : Nat} {K : AF → Prop} (hx : af.ev x = pA b o) (hk : K (af.put d (pA b o))) : opA P ⟨d, .nilCheck x, ty, pos, after, g⟩ af K := by
  refine ⟨_, fun M w ev _ h => ?_, hk⟩
  have e1 := opnd h (x := x) (by simp [Op.operands]) hx
  simp [execOp, e1, go_sem, UponQ]
  exact ⟨Keeps.refl _ _, rfl⟩
theorem op_nilCheck_ptr {c : List AV} {K : AF → Prop} (hx : af.ev x = .ptr c) (hk : K (af.put d (.ptr c))) : opA P ⟨d, .nilCheck x, ty, pos, after, g⟩ af K := by
  refine ⟨_, fun M w ev _ h => ?_, hk⟩
  have h0 := opnd_p h (x := x) (by simp [Op.operands]) hx
  have ⟨b, off, e1, _⟩ := h0
  simp [execOp, e1, go_sem, UponQ]
  rw [e1] at h0
  exact ⟨Keeps.refl _ _, h0⟩
/-- The type of a struct's field, its place and size. -/
def fieldB (P : Program) (t : TypeId) (f o : Nat) : Bool := match P.underlying t with
  | some (.struct fs) => match fs[f]? with
    | some fd => fd.offset == o && (match P.info? fd.type with | some i => i.size != 0 | none => false)
    | none => false
  | _ => false
theorem fieldB_spec {f o : Nat} (h : fieldB P t f o = true) : ∃ fs fd n, P.underlying t = some (.struct fs) ∧ fs[f]? = some fd ∧ fd.offset = o ∧ (P.info? fd.type).map (·.size) = some n ∧ n ≠ 0 := by
  unfold fieldB at h
  split at h
  · rename_i fs hu
    split at h
    · rename_i fd hf
      simp only [Bool.and_eq_true, beq_iff_eq] at h
      obtain ⟨h1, h2⟩ := h
      split at h2
      · rename_i i hi; exact ⟨fs, fd, i.size, hu, hf, h1, by simp [hi], by simpa using h2⟩
      · cases h2
    · cases h
  · cases h
theorem run_fieldAt {f o b o0 : Nat} {w : World} (hB : fieldB P t f o = true) : (Instr.fieldAt t (.pointer (some ⟨b, o0, none⟩)) f).run P w = .ok (.pointer (some ⟨b, o0 + o, none⟩)) w := by
  obtain ⟨fs, fd, n, hu, hf, ho, hs, hn⟩ := fieldB_spec hB
  unfold Instr.fieldAt
  simp only [Sem.run_bind, run_under hu, Result.andThen_ok, hf, Instr.sureAddr, Sem.run_pure, fieldPlace, run_size hs, if_neg hn, addr_at, ho]
theorem op_fieldAddr {f o b o0 : Nat} {K : AF → Prop} (hB : fieldB P t f o = true) (hx : af.ev x = pA b o0) (hk : K (af.put d (pA b (o0 + o)))) : opA P ⟨d, .fieldAddr t x f, ty, pos, after, g⟩ af K := by
  refine ⟨_, fun M w ev _ h => ?_, hk⟩
  have e1 := opnd h (x := x) (by simp [Op.operands]) hx
  have hr : (execOp ev ⟨d, .fieldAddr t x f, ty, pos, after, g⟩).run P w = .ok (.value (.pointer (some ⟨b, o0 + o, none⟩))) w := by
    unfold execOp
    simp only [e1, Sem.run_bind, run_fieldAt hB, Result.andThen_ok, Sem.run_pure]
  rw [hr]
  exact ⟨Keeps.refl _ _, rfl⟩
theorem op_fieldAddr_ptr {f o : Nat} {c c' : List AV} {K : AF → Prop} (hB : fieldB P t f o = true) (hx : af.ev x = .ptr c) (hc : c.drop o = c') (hk : K (af.put d (.ptr c'))) : opA P ⟨d, .fieldAddr t x f, ty, pos, after, g⟩ af K := by
  subst hc
  refine ⟨_, fun M w ev _ h => ?_, hk⟩
  obtain ⟨b, o0, e1, hb, hn, hc⟩ := opnd_p h (x := x) (by simp [Op.operands]) hx
  have hr : (execOp ev ⟨d, .fieldAddr t x f, ty, pos, after, g⟩).run P w = .ok (.value (.pointer (some ⟨b, o0 + o, none⟩))) w := by
    unfold execOp
    simp only [e1, Sem.run_bind, run_fieldAt hB, Result.andThen_ok, Sem.run_pure]
  rw [hr]
  exact ⟨Keeps.refl _ _, b, o0 + o, rfl, hb, hn, hc.sub (fun j a hj => by rwa [List.getElem?_drop] at hj)⟩
/-- The type of an array's element, its size. -/
def arrIdxB (P : Program) (t : TypeId) (m n : Nat) : Bool := match P.underlying t with
  | some (.array k e) => k == m && sizeB P e n
  | _ => false
theorem run_indexArr {m n b o0 : Nat} {k : IntKind} {i : Int} {w : World} (hB : arrIdxB P t m n = true) (h0 : 0 ≤ i) (h1 : i < m) : (Instr.indexAt t (.pointer (some ⟨b, o0, none⟩)) (.int k i)).run P w = .ok (.pointer (some ⟨b, o0 + i.toNat * n, none⟩)) w := by
  unfold arrIdxB at hB
  split at hB
  · rename_i kk e hu
    simp only [Bool.and_eq_true, beq_iff_eq] at hB
    obtain ⟨rfl, hs⟩ := hB
    simp [Instr.indexAt, asIntOf, run_under hu, Instr.sureAddr, h0, h1, run_size (sizeB_spec hs), addr_at, go_sem]
  · cases hB
theorem op_indexArr {m n b o0 : Nat} {k : IntKind} {i : Int} {K : AF → Prop} (hB : arrIdxB P t m n = true) (hx : af.ev x = pA b o0) (hy : af.ev y = .exact (.int k i)) (h0 : 0 ≤ i) (h1 : i < m) (hk : K (af.put d (pA b (o0 + i.toNat * n)))) : opA P ⟨d, .indexAddr t x y, ty, pos, after, g⟩ af K := by
  refine ⟨_, fun M w ev _ h => ?_, hk⟩
  have e1 := opnd h (x := x) (by simp [Op.operands]) hx
  have e2 := opnd h (x := y) (by simp [Op.operands]) hy
  have hr : (execOp ev ⟨d, .indexAddr t x y, ty, pos, after, g⟩).run P w = .ok (.value (.pointer (some ⟨b, o0 + i.toNat * n, none⟩))) w := by
    unfold execOp
    simp only [e1, e2, Sem.run_bind, run_indexArr hB h0 h1, Result.andThen_ok, Sem.run_pure]
  rw [hr]
  exact ⟨Keeps.refl _ _, rfl⟩
theorem op_indexArr_ptr {m n : Nat} {k : IntKind} {i : Int} {c c' : List AV} {K : AF → Prop} (hB : arrIdxB P t m n = true) (hx : af.ev x = .ptr c) (hy : af.ev y = .exact (.int k i)) (h0 : 0 ≤ i) (h1 : i < m) (hc : c.drop (i.toNat * n) = c') (hk : K (af.put d (.ptr c'))) : opA P ⟨d, .indexAddr t x y, ty, pos, after, g⟩ af K := by
  subst hc
  refine ⟨_, fun M w ev _ h => ?_, hk⟩
  obtain ⟨b, o0, e1, hb, hn, hc⟩ := opnd_p h (x := x) (by simp [Op.operands]) hx
  have e2 := opnd h (x := y) (by simp [Op.operands]) hy
  have hr : (execOp ev ⟨d, .indexAddr t x y, ty, pos, after, g⟩).run P w = .ok (.value (.pointer (some ⟨b, o0 + i.toNat * n, none⟩))) w := by
    unfold execOp
    simp only [e1, e2, Sem.run_bind, run_indexArr hB h0 h1, Result.andThen_ok, Sem.run_pure]
  rw [hr]
  exact ⟨Keeps.refl _ _, b, _, rfl, hb, hn, hc.sub (fun j a hj => by rwa [List.getElem?_drop] at hj)⟩

/-! ### Loads -/
theorem run_load1 {w : World} {b o : Nat} {u : Value} (hB : loadB P t false 1 = true) (h : w.cell? ⟨b, o, none⟩ = some u) : (Instr.loadAt t (.pointer (some ⟨b, o, none⟩))).run P w = .ok u w := by
  obtain ⟨⟨D, hu, ha⟩, hs⟩ := loadB_spec hB
  simp [Instr.loadAt, Instr.sureAddr, loadVar, run_agg hu, ha, h, go_sem]
theorem run_loadN {w : World} {b o m : Nat} {vs : List Value} (hB : loadB P t true m = true) (hl : vs.length = m) (h : ∀ j, j < m → ∃ u, vs[j]? = some u ∧ w.cell? ⟨b, o + j, none⟩ = some u) : (Instr.loadAt t (.pointer (some ⟨b, o, none⟩))).run P w = .ok (.agg vs.toArray) w := by
  obtain ⟨⟨D, hu, ha⟩, hs⟩ := loadB_spec hB
  have h3 := run_cells (P := P) (w := w) (b := b) m o 0 vs #[] (fun j hj => by simpa using h j hj) hl
  simp [Instr.loadAt, Instr.sureAddr, loadVar, run_agg hu, ha, run_size hs, loadCells, h3, go_sem]
theorem op_load1p {a : AV} {c : List AV} {K : AF → Prop} (hB : loadB P t false 1 = true) (hx : af.ev x = .ptr c) (hc : c[0]? = some a) (hk : K (af.put d a)) : opA P ⟨d, .load t x, ty, pos, after, g⟩ af K := by
  refine ⟨_, fun M w ev _ h => ?_, hk⟩
  obtain ⟨b, off, e1, _, _, e4⟩ := opnd_p h (x := x) (by simp [Op.operands]) hx
  obtain ⟨u, h1, h2⟩ := e4 0 a hc
  have hr : (execOp ev ⟨d, .load t x, ty, pos, after, g⟩).run P w = .ok (.value u) w := by
    unfold execOp
    simp only [e1, Sem.run_bind, run_load1 hB (by simpa using h1), Result.andThen_ok, Sem.run_pure]
  rw [hr]
  exact ⟨Keeps.refl _ _, h2⟩
theorem op_loadNp {c c' : List AV} {m : Nat} {K : AF → Prop} (hB : loadB P t true m = true) (hx : af.ev x = .ptr c) (hc : c.take m = c') (hl : c'.length = m) (hk : K (af.put d (.agg c'))) : opA P ⟨d, .load t x, ty, pos, after, g⟩ af K := by
  refine ⟨_, fun M w ev _ h => ?_, hk⟩
  obtain ⟨b, off, e1, _, _, e4⟩ := opnd_p h (x := x) (by simp [Op.operands]) hx
  have e5 : CellsAt M w b off c' := fun j a hj => e4 j a (by
    rw [← hc, List.getElem?_take] at hj
    split at hj
    · exact hj
    · cases hj)
  obtain ⟨vs, h1, h2⟩ := fit_cells e5
  have hr : (execOp ev ⟨d, .load t x, ty, pos, after, g⟩).run P w = .ok (.value (.agg vs.toArray)) w := by
    unfold execOp
    simp only [e1, Sem.run_bind, run_loadN hB (h1.length.symm.trans hl) (fun j hj => h2 j (by omega)), Result.andThen_ok, Sem.run_pure]
  rw [hr]
  exact ⟨Keeps.refl _ _, vs, rfl, h1⟩

theorem box_at {M : BSet} {b : Nat} {c : List AV} (h : (boxI t b c).p M w) : ∃ vs : List Value, w.heap[b]? = some (.cells vs.toArray t (0, 0)) ∧ Fit M w c vs ∧ ∀ j : Nat, w.cell? ⟨b, j, none⟩ = vs[j]? := by
  obtain ⟨vs, h1, h2⟩ := h
  exact ⟨vs, h1, h2, fun j => by rw [cell_of_row _ b j _ t (0, 0) h1]; simp⟩
theorem op_load_box1 {bt : TypeId} {b o : Nat} {c : List AV} {a : AV} {K : AF → Prop} (hB : loadB P t false 1 = true) (hx : af.ev x = pA b o) (hc : c[o]? = some a) (hk : K (af.put d a)) : opR P ⟨d, .load t x, ty, pos, after, g⟩ af (boxI bt b c :: ρ) K := by
  refine ⟨_, fun F w ev hg h => ?_, hk⟩
  have e1 := opnd h (x := x) (by simp [Op.operands]) hx
  obtain ⟨vs, _, hf, hcell⟩ := box_at (hg.items _ List.mem_cons_self)
  obtain ⟨u, hu, hp⟩ := hf.at hc
  have hr : (execOp ev ⟨d, .load t x, ty, pos, after, g⟩).run P w = .ok (.value u) w := by
    unfold execOp
    simp only [e1, Sem.run_bind, run_load1 hB ((hcell o).trans hu), Result.andThen_ok, Sem.run_pure]
  rw [hr]
  exact ⟨Keeps.refl _ _, hp⟩
theorem op_load_boxN {bt : TypeId} {b o m : Nat} {c c' : List AV} {K : AF → Prop} (hB : loadB P t true m = true) (hx : af.ev x = pA b o) (hc : (c.drop o).take m = c') (hl : c'.length = m) (hk : K (af.put d (.agg c'))) : opR P ⟨d, .load t x, ty, pos, after, g⟩ af (boxI bt b c :: ρ) K := by
  refine ⟨_, fun F w ev hg h => ?_, hk⟩
  have e1 := opnd h (x := x) (by simp [Op.operands]) hx
  obtain ⟨vs, _, hf, hcell⟩ := box_at (hg.items _ List.mem_cons_self)
  have hf' := (hf.drop o).take m
  rw [hc] at hf'
  have hr : (execOp ev ⟨d, .load t x, ty, pos, after, g⟩).run P w = .ok (.value (.agg ((vs.drop o).take m).toArray)) w := by
    unfold execOp
    simp only [e1, Sem.run_bind, run_loadN hB (hf'.length.symm.trans hl) (fun j hj => by
      have hjl : j < ((vs.drop o).take m).length := by rw [← hf'.length]; omega
      exact ⟨_, List.getElem?_eq_getElem hjl, by
        rw [hcell, ← List.getElem?_eq_getElem hjl, List.getElem?_take_of_lt hj, List.getElem?_drop]⟩), Result.andThen_ok, Sem.run_pure]
  rw [hr]
  exact ⟨Keeps.refl _ _, _, rfl, hf'⟩

/-! ### Stores -/
def splc {α : Type} (c : List α) (o : Nat) (c' : List α) : List α := c.take o ++ c' ++ c.drop (o + c'.length)
theorem Fit.spl {M : BSet} {c c' : List AV} {vs us : List Value} (o : Nat) (h : Fit M w c vs) (h' : Fit M w c' us) : Fit M w (splc c o c') (splc vs o us) := by
  unfold splc; rw [h'.length]; exact ((h.take o).app h').app (h.drop _)
def OneCs (c : List AV) : Prop := OneC c
theorem run_storeAt {w : World} {b o : Nat} {u : Value} {cur us : List Value} {bt : TypeId} (hs : sizeB P t us.length = true) (hb : w.heap[b]? = some (.cells cur.toArray bt (0, 0))) (hu : u.cells = us.toArray) (hl : o + us.length ≤ cur.length) (h1 : ∀ v ∈ us, v.oneCell' = true) :
    (Instr.storeAt t (.pointer (some ⟨b, o, none⟩)) u).run P w = .ok () (w.setRow b (splc cur o us).toArray) := by
  have h3 := run_storeCells_at (P := P) b o bt us 0 cur.toArray w hb (by simpa using hl) h1
  simp only [Nat.add_zero] at h3
  unfold Instr.storeAt storeVar
  simp only [Instr.sureAddr, Sem.run_bind, Sem.run_pure, Result.andThen_ok, run_size (sizeB_spec hs), hu]
  simp only [splc]
  simp at h3 ⊢
  exact h3
theorem loud_store_box {bt : TypeId} {b o : Nat} {c c' c2 : List AV} {a : AV} (hx : af.ev x = pA b o) (hy : af.ev y = a) (hc : CellsOf a c2) (hl : LEs c2 c') (h1 : OneC c2) (hs : sizeB P t c'.length = true) (ho : o + c'.length ≤ c.length) :
    Loud P ⟨d, .store t x y, ty, pos, after, g⟩ af (boxI bt b c :: ρ) (fun a s => a = undefA ∧ s = boxI bt b (splc c o c') :: ρ) := by
  intro F w ev hg h
  have e1 := opnd h (x := x) (by simp [Op.operands]) hx
  obtain ⟨us, e2, hf2⟩ := hc _ w _ (opnd_p h (x := y) (by simp [Op.operands]) hy)
  obtain ⟨vs, hb, hf, hcell⟩ := box_at (hg.items _ List.mem_cons_self)
  have hf3 := LE_fit hl hf2
  have hlen : us.length = c'.length := hf3.length.symm
  have hr : (execOp ev ⟨d, .store t x y, ty, pos, after, g⟩).run P w = .ok .skip (w.setRow b (splc vs o us).toArray) := by
    unfold execOp
    simp only [e1, Sem.run_bind, run_storeAt (by rw [hlen]; exact hs) hb e2 (by rw [hlen, ← hf.length]; exact ho) (h1.fit hf2), Result.andThen_ok, Sem.run_pure]
  rw [hr]
  have hblt := (Array.getElem?_eq_some_iff.1 hb).1
  have hk : Keeps (fun k => k ∈ (boxI bt b c).own) w (w.setRow b (splc vs o us).toArray) := ⟨rfl, rfl, rfl, Nat.le_refl _, by simp, fun k hlt hn => by
    have hne : k ≠ b := fun e => hn (by simp [boxI, e])
    simp [World.setRow, Array.getElem?_modify, Ne.symm hne]⟩
  obtain ⟨g1, g2, g3⟩ := good_head (it' := boxI bt b (splc c o c')) hg hk (fun k hk' => ⟨by simp [boxI] at hk'; subst hk'; simpa using hblt, fun _ => hk'⟩) (by simp [boxI])
    (fun hkk hMM => ⟨splc vs o us, setRow_heap w b vs.toArray _ bt _ hb, Fit.spl o (hf.keep hkk hMM) (hf3.keep hkk hMM)⟩)
  exact ⟨_, _, ⟨rfl, rfl⟩, g1, g2, g3, rfl⟩
theorem op_store_box {bt : TypeId} {b o : Nat} {c c' c2 c3 : List AV} {a : AV} {K : AF → Items → Prop} (hx : af.ev x = pA b o) (hy : af.ev y = a) (hc : CellsOf a c2) (hl : LEs c2 c') (h1 : OneC c2) (hs : sizeB P t c'.length = true) (ho : o + c'.length ≤ c.length) (h3 : splc c o c' = c3) (hk : K (af.put d undefA) (boxI bt b c3 :: ρ)) :
    opB P ⟨d, .store t x y, ty, pos, after, g⟩ af (boxI bt b c :: ρ) K :=
  ⟨_, loud_store_box hx hy hc hl h1 hs ho, fun av s ⟨e1, e2⟩ => by subst e1 e2 h3; exact hk⟩
/-- A variable is written no more. -/
theorem SubU.freezeBox {bt : TypeId} {b : Nat} {c : List AV} {s : Tmp} (hs : af s = pA b 0) : SubU af (boxI bt b c :: σ) (af.put (some s) (.ptr c)) σ := by
  intro E n a w hh
  have hM : ∀ k, k < w.heap.size → both E.F (Items.own σ) k → both E.F (Items.own (boxI bt b c :: σ)) k := fun k _ h => h.imp id (fun h => own_cons.2 (.inr h))
  have hd := (SubU.drop (it := boxI bt b c) (af := af) (σ := σ)) E n a w hh
  have hnd := hh.good.nodup
  rw [List.flatMap_cons, List.nodup_append] at hnd
  refine ⟨hd.tmps, hd.defers, hd.kept, hd.old, hd.good, fun u => ?_⟩
  by_cases hu : u = s
  · subst hu
    rw [AF.put_same]
    have hv := hh.fits u
    rw [hs] at hv
    obtain ⟨vs, hb, hf, hcell⟩ := box_at (hh.good.items _ List.mem_cons_self)
    refine ⟨b, 0, hv, (Array.getElem?_eq_some_iff.1 hb).1, ?_, cells_of_fit (hf.keep (Keeps.refl _ _) hM) (fun j u hu => by rw [hcell, Nat.zero_add]; exact hu)⟩
    rintro (hF | hO)
    · exact (hh.good.own b (own_cons.2 (.inl (by simp [boxI])))).2 hF
    · exact hnd.2.2 b (by simp [boxI]) b hO rfl
  · rw [AF.put_other _ _ hu]
    exact hd.fits u
end
end Go.Proofs.Ytkplmgdmkfgjhaa
