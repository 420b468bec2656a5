/- A calculus of what is known: abstract values, blocks in use, one walk for every order. -/
import Derived.Test.YtkplmgdmkfgjhaaRows
import Derived.Test.YtkplmgdmkfgjhaaWo
import Derived.Test.YtkplmgdmkfgjhaaAu
import Derived.WalkKit
import Derived.WalkSpells
import Derived.WalkLawsBesides
import Derived.Still
import Derived.RowKit3
namespace Go.Proofs.Ytkplmgdmkfgjhaa
open Go.RowKit

abbrev BSet := Nat → Prop
/-- Blocks outside M are as they were. -/
structure Keeps (M : BSet) (w w' : World) : Prop where
  os : w'.os = w.os
  tape : w'.tape = w.tape
  output : w'.output = w.output
  drawn : w.drawn ≤ w'.drawn
  size : w.heap.size ≤ w'.heap.size
  block : ∀ k, k < w.heap.size → ¬ M k → w'.heap[k]? = w.heap[k]?

def noB : BSet := fun _ => False
theorem Keeps.refl (M : BSet) (w : World) : Keeps M w w := ⟨rfl, rfl, rfl, Nat.le_refl _, Nat.le_refl _, fun _ _ _ => rfl⟩
theorem Keeps.trans {M : BSet} {a b c : World} (h : Keeps M a b) (k : Keeps M b c) : Keeps M a c :=
  ⟨k.os.trans h.os, k.tape.trans h.tape, k.output.trans h.output, Nat.le_trans h.drawn k.drawn, Nat.le_trans h.size k.size, fun i hi hm => (k.block i (Nat.lt_of_lt_of_le hi h.size) hm).trans (h.block i hi hm)⟩
theorem Keeps.mono {M M' : BSet} {w w' : World} (h : Keeps M w w') (hm : ∀ k, k < w.heap.size → M k → M' k) : Keeps M' w w' :=
  ⟨h.os, h.tape, h.output, h.drawn, h.size, fun i hi hn => h.block i hi (fun hk => hn (hm i hi hk))⟩
theorem Keeps.step {M N : BSet} {a b c : World} (h : Keeps M a b) (k : Keeps N b c) (ho : ∀ i, N i → i < a.heap.size → M i) : Keeps M a c :=
  ⟨k.os.trans h.os, k.tape.trans h.tape, k.output.trans h.output, Nat.le_trans h.drawn k.drawn, Nat.le_trans h.size k.size, fun i hi hm => (k.block i (Nat.lt_of_lt_of_le hi h.size) (fun hn => hm (ho i hn hi))).trans (h.block i hi hm)⟩
theorem Keeps.drew (M : BSet) (w : World) : Keeps M w { w with drawn := w.drawn + 1 } := ⟨rfl, rfl, rfl, Nat.le_succ _, Nat.le_refl _, fun _ _ _ => rfl⟩

/-- What is known of a value while the blocks outside M stay. -/
structure AV where
  p : BSet → World → Value → Prop
  keep : ∀ {M M' : BSet} {w w' : World} {v : Value}, Keeps M w w' → (∀ k, k < w.heap.size → M' k → M k) → p M w v → p M' w' v
def AV.exact (v0 : Value) : AV := ⟨fun _ _ v => v = v0, fun _ _ h => h⟩
def AV.top : AV := ⟨fun _ _ _ => True, fun _ _ _ => trivial⟩

/-- What is known of the slots. -/
abbrev AF := Nat → AV
def AF.ev (af : AF) : Operand → AV
  | .tmp t => af t
  | .const v => .exact v
  | .global g => .exact (.pointer (some ⟨g, 0, none⟩))
  | .func f => .exact (.func (.func f) #[] #[])
def AF.put (af : AF) (dst : Option Tmp) (x : AV) : AF := match dst with | some d => fun t => bif Nat.beq t d then x else af t | none => af

theorem AF.put_same (af : AF) (d : Nat) (x : AV) : (af.put (some d) x) d = x := by simp [AF.put]
theorem AF.put_other (af : AF) {d t : Nat} (x : AV) (h : t ≠ d) : (af.put (some d) x) t = af t := by
  have : Nat.beq t d = false := by
    cases hb : Nat.beq t d with
    | false => rfl
    | true => exact absurd (Nat.eq_of_beq_eq_true hb) h
  simp [AF.put, this]

/-- A thing in use by the call: its blocks; what it holds. -/
structure Item where
  own : List Nat
  p : BSet → World → Prop
  keep : ∀ {M M' : BSet} {w w' : World}, Keeps (fun k => M k ∧ k ∉ own) w w' → (∀ k, k < w.heap.size → M' k → M k) → p M w → p M' w'

abbrev Items := List Item
def Items.own (σ : Items) : BSet := fun k => k ∈ σ.flatMap Item.own
def both (A B : BSet) : BSet := fun k => A k ∨ B k

/-- The things in use stand; F: blocks in use by the callers. -/
structure Good (F : BSet) (σ : Items) (w : World) : Prop where
  fr : ∀ k, F k → k < w.heap.size
  own : ∀ k, Items.own σ k → k < w.heap.size ∧ ¬ F k
  nodup : (σ.flatMap Item.own).Nodup
  items : ∀ it ∈ σ, it.p (both F (Items.own σ)) w

theorem Good.keep {F : BSet} {σ : Items} {w w' : World} (h : Good F σ w) (hk : Keeps noB w w') : Good F σ w' :=
  ⟨fun k hF => Nat.lt_of_lt_of_le (h.fr k hF) hk.size, fun k ho => ⟨Nat.lt_of_lt_of_le (h.own k ho).1 hk.size, (h.own k ho).2⟩, h.nodup,
    fun it hi => it.keep (hk.mono (fun _ _ hf => hf.elim)) (fun _ _ hm => hm) (h.items it hi)⟩

/-- The call's bounds: the world at its start, the old blocks that it may change, the callers' blocks. -/
structure Env where
  w0 : World
  M0 : BSet
  F : BSet

structure Holds (E : Env) (n : Nat) (af : AF) (σ : Items) (a : Act) (w : World) : Prop where
  tmps : a.tmps.size = n
  defers : a.defers = []
  kept : Keeps E.M0 E.w0 w
  old : ∀ k, Items.own σ k → k < E.w0.heap.size → E.M0 k
  good : Good E.F σ w
  fits : ∀ t, (af t).p (both E.F (Items.own σ)) w (a.tmps.getD t undef)

theorem Holds.ev {E : Env} {n : Nat} {af : AF} {σ : Items} {a : Act} {w : World} (h : Holds E n af σ a w) (x : Operand) : (af.ev x).p (both E.F (Items.own σ)) w (a.eval x) := by
  cases x with
  | tmp t => exact h.fits t
  | const v => exact rfl
  | global g => exact rfl
  | func f => exact rfl

/-- What comes of an operation or a call: a value, things in use. -/
def Out (F : BSet) (σ : Items) (w : World) (post : AV → Items → Prop) (v : Value) (w' : World) : Prop :=
  ∃ av σ', post av σ' ∧ Good F σ' w' ∧ Keeps (Items.own σ) w w' ∧ (∀ k, Items.own σ' k → k < w.heap.size → Items.own σ k) ∧ av.p (both F (Items.own σ')) w' v

def Upon (P : Program) (F : BSet) (σ : Items) (w : World) (post : AV → Items → Prop) : Result Next → Prop
  | .ok (.value v) w' => Out F σ w post v w'
  | .ok .skip w' => Out F σ w post undef w'
  | .ok (.enter f args) w' => Calls P f args w' fun e w'' => ∃ v, e = .returned v ∧ Out F σ w post v w''
  | .ok (.row row args) w' => Rows P row args w' fun v w'' => Out F σ w post v w''
  | _ => False

/-- The operation, from what is known of its operands and of the things in use. -/
def Loud (P : Program) (o : Oper) (af : AF) (σ : Items) (post : AV → Items → Prop) : Prop :=
  ∀ F w ev, Good F σ w → (∀ x ∈ o.op.operands, (af.ev x).p (both F (Items.own σ)) w (ev x)) → Upon P F σ w post ((execOp ev o).run P w)

/-- The same where nothing in use is touched. -/
def UponQ (P : Program) (M : BSet) (w : World) (av : AV) : Result Next → Prop
  | .ok (.value v) w' => Keeps noB w w' ∧ av.p M w' v
  | .ok .skip w' => Keeps noB w w' ∧ av.p M w' undef
  | .ok (.enter f args) w' => Calls P f args w' fun e w'' => ∃ v, e = .returned v ∧ Keeps noB w w'' ∧ av.p M w'' v
  | .ok (.row row args) w' => Rows P row args w' fun v w'' => Keeps noB w w'' ∧ av.p M w'' v
  | _ => False
def Quiet (P : Program) (o : Oper) (af : AF) (av : AV) : Prop :=
  ∀ M w ev, (∀ k, M k → k < w.heap.size) → (∀ x ∈ o.op.operands, (af.ev x).p M w (ev x)) → UponQ P M w av ((execOp ev o).run P w)

theorem out_of_quiet {F : BSet} {σ : Items} {w w' : World} {av : AV} {v : Value} (hg : Good F σ w) (hk : Keeps noB w w') (hp : av.p (both F (Items.own σ)) w' v) : Out F σ w (fun a s => a = av ∧ s = σ) v w' :=
  ⟨av, σ, ⟨rfl, rfl⟩, hg.keep hk, hk.mono (fun _ _ h => h.elim), fun _ h _ => h, hp⟩

theorem Good.lt {F : BSet} {σ : Items} {w : World} (hg : Good F σ w) : ∀ k, both F (Items.own σ) k → k < w.heap.size := fun k h => h.elim (hg.fr k) (fun h => (hg.own k h).1)

theorem loud_of_quiet {P : Program} {o : Oper} {af : AF} {av : AV} (σ : Items) (h : Quiet P o af av) : Loud P o af σ (fun a s => a = av ∧ s = σ) := by
  intro F w ev hg hx
  have h1 := h _ w ev hg.lt hx
  generalize (execOp ev o).run P w = r at h1
  cases r with
  | ok n w' =>
    cases n <;> simp only [UponQ] at h1 <;> simp only [Upon] <;> try exact h1.elim
    case value v => exact out_of_quiet hg h1.1 h1.2
    case skip => exact out_of_quiet hg h1.1 h1.2
    case enter f args => exact h1.mono fun e w'' ⟨v, he, hk, hp⟩ => ⟨v, he, out_of_quiet hg hk hp⟩
    case row r args => exact h1.mono fun v w'' ⟨hk, hp⟩ => out_of_quiet hg hk hp
  | halt x w' => exact h1.elim

def boolOf : Value → Option Bool
  | .bool c => some c
  | _ => none
/-- Whether the operation is wanted. -/
def Sat (ops : Array Oper) (o : Oper) (af : AF) (b : Bool) : Prop :=
  (o.guard = none ∧ b = true) ∨ ∃ j want d u, o.guard = some (j, want) ∧ (ops[j]?).bind (·.dst) = some d ∧ af d = .exact u ∧ b = (boolOf u == some want)

section
variable {P : Program} {ops : Array Oper} {E : Env} {n : Nat} {Q : Exit → Act → World → Prop}

theorem Sat.wanted {o : Oper} {af : AF} {σ : Items} {b : Bool} {a : Act} {w : World} (h : Sat ops o af b) (hh : Holds E n af σ a w) : Region.wanted o (yielded ops a.tmps) = b := by
  rcases h with ⟨h1, rfl⟩ | ⟨j, want, d, c, h1, h2, h3, rfl⟩
  · simp [Region.wanted, h1]
  · have h4 := hh.fits d
    rw [h3] at h4
    have h5 : a.tmps.getD d undef = c := h4
    have h6 : yielded ops a.tmps j = boolOf c := by
      unfold yielded
      rw [h2]
      cases hq : a.tmps[d]? with
      | none => simp [hq, undef] at h5; subst h5; simp [hq, boolOf]
      | some u =>
        simp [hq] at h5
        subst h5
        simp only [Option.bind_some, hq]
        cases u <;> rfl
    simp only [Region.wanted, h1, h6]

theorem AF.put_ne (af : AF) {d : Tmp} {dst : Option Tmp} (x : AV) (h : dst ≠ some d) : (af.put dst x) d = af d := by
  cases dst with
  | none => rfl
  | some e => exact af.put_other x (fun he => h (by rw [he]))

theorem AF.put_comm (af : AF) {x y : Option Tmp} (u v : AV) (h : ∀ d, x = some d → y ≠ some d) : (af.put x u).put y v = (af.put y v).put x u := by
  cases x with
  | none => rfl
  | some d =>
    cases y with
    | none => rfl
    | some e =>
      have hne : d ≠ e := fun he => h d rfl (by rw [he])
      funext t
      by_cases h1 : t = e
      · subst h1; rw [AF.put_same, AF.put_other _ _ (Ne.symm hne), AF.put_same]
      · rw [AF.put_other _ _ h1]; by_cases h2 : t = d
        · subst h2; rw [AF.put_same, AF.put_same]
        · rw [AF.put_other _ _ h2, AF.put_other _ _ h2, AF.put_other _ _ h1]

theorem ev_put {o oj : Oper} (af : AF) (x : AV) (h : ∀ d, oj.dst = some d → d ∉ o.looksAt ops) : ∀ y ∈ o.op.operands, (af.put oj.dst x).ev y = af.ev y := by
  intro y hy
  cases y with
  | tmp t =>
    refine af.put_ne x (fun he => h t he ?_)
    exact List.mem_append_left _ (List.mem_filterMap.2 ⟨.tmp t, by simpa using hy, rfl⟩)
  | _ => rfl

theorem Quiet.put {o oj : Oper} {af : AF} {av : AV} (x : AV) (h : ∀ d, oj.dst = some d → d ∉ o.looksAt ops) (hq : Quiet P o af av) : Quiet P o (af.put oj.dst x) av :=
  fun M w ev hM hx => hq M w ev hM (fun y hy => by have := hx y hy; rwa [ev_put af x h y hy] at this)
theorem Loud.unput {o oj : Oper} {af : AF} {σ : Items} {post : AV → Items → Prop} (x : AV) (h : ∀ d, oj.dst = some d → d ∉ o.looksAt ops) (hq : Loud P o (af.put oj.dst x) σ post) : Loud P o af σ post :=
  fun F w ev hg hx => hq F w ev hg (fun y hy => by rw [ev_put af x h y hy]; exact hx y hy)
theorem Sat.put_iff {o oj : Oper} {af : AF} {b : Bool} (x : AV) (h : ∀ d, oj.dst = some d → d ∉ o.looksAt ops) : Sat ops o (af.put oj.dst x) b ↔ Sat ops o af b := by
  have key : ∀ j want d, o.guard = some (j, want) → (ops[j]?).bind (·.dst) = some d → (af.put oj.dst x) d = af d := fun j want d h1 h2 =>
    af.put_ne x (fun he => h d he (by simp [Oper.looksAt, h1, h2]))
  constructor
  · rintro (h1 | ⟨j, want, d, c, h1, h2, h3, h4⟩)
    · exact .inl h1
    · exact .inr ⟨j, want, d, c, h1, h2, by rw [← key j want d h1 h2]; exact h3, h4⟩
  · rintro (h1 | ⟨j, want, d, c, h1, h2, h3, h4⟩)
    · exact .inl h1
    · exact .inr ⟨j, want, d, c, h1, h2, by rw [key j want d h1 h2]; exact h3, h4⟩

def undefA : AV := .exact undef
/-- Operation number i comes up. -/
def stepA (P : Program) (ops : Array Oper) (i : Nat) (K : AF → Items → Prop) (af : AF) (σ : Items) : Prop :=
  match ops[i]? with
  | none => K af σ
  | some o => (Sat ops o af false ∧ K (af.put o.dst undefA) σ) ∨ (Sat ops o af true ∧ ∃ post, Loud P o af σ post ∧ ∀ av σ', post av σ' → K (af.put o.dst av) σ')

theorem stepA_mono {i : Nat} {K K' : AF → Items → Prop} {af : AF} {σ : Items} (h : ∀ af σ, K af σ → K' af σ) (hh : stepA P ops i K af σ) : stepA P ops i K' af σ := by
  unfold stepA at *
  split
  · rename_i h0; simp only [h0] at hh; exact h _ _ hh
  · rename_i o h0
    simp only [h0] at hh
    rcases hh with ⟨h1, h2⟩ | ⟨h1, post, h2, h3⟩
    · exact .inl ⟨h1, h _ _ h2⟩
    · exact .inr ⟨h1, post, h2, fun av σ' hp => h _ _ (h3 av σ' hp)⟩

/-- It yields av, touching nothing in use. -/
def YieldsA (P : Program) (ops : Array Oper) (o : Oper) (av : AV) (af : AF) : Prop :=
  (Sat ops o af false ∧ av = undefA) ∨ (Sat ops o af true ∧ Quiet P o af av)

theorem YieldsA.step {i : Nat} {o : Oper} {av : AV} {af : AF} {σ : Items} {K : AF → Items → Prop} (hi : ops[i]? = some o) (hy : YieldsA P ops o av af) (h : K (af.put o.dst av) σ) : stepA P ops i K af σ := by
  unfold stepA
  simp only [hi]
  rcases hy with ⟨h1, rfl⟩ | ⟨h1, h2⟩
  · exact .inl ⟨h1, h⟩
  · exact .inr ⟨h1, _, loud_of_quiet σ h2, fun a s ⟨e1, e2⟩ => by subst e1 e2; exact h⟩

theorem YieldsA.put {o oj : Oper} {af : AF} {av : AV} (x : AV) (h : ∀ d, oj.dst = some d → d ∉ o.looksAt ops) (hy : YieldsA P ops o av af) : YieldsA P ops o av (af.put oj.dst x) :=
  hy.imp (fun ⟨h1, h2⟩ => ⟨(Sat.put_iff x h).2 h1, h2⟩) (fun ⟨h1, h2⟩ => ⟨(Sat.put_iff x h).2 h1, h2.put x h⟩)

theorem stepA_put {j : Nat} {oi oj : Oper} {av : AV} (hj : ops[j]? = some oj) (hap : oi.apart ops oj = true) {K : AF → Items → Prop} {af : AF} {σ : Items}
    (hy : YieldsA P ops oi av af) (h : stepA P ops j K (af.put oi.dst av) σ) : stepA P ops j (fun af' σ' => YieldsA P ops oi av af' ∧ K (af'.put oi.dst av) σ') af σ := by
  obtain ⟨h1, h2, h3⟩ := Oper.apart_spec hap
  unfold stepA at *
  simp only [hj] at *
  rcases h with ⟨h4, h5⟩ | ⟨h4, post, h5, h6⟩
  · refine .inl ⟨(Sat.put_iff av h1).1 h4, hy.put _ h3, ?_⟩
    rw [← AF.put_comm af av undefA h2]
    exact h5
  · refine .inr ⟨(Sat.put_iff av h1).1 h4, post, h5.unput av h1, fun u σ' hp => ⟨hy.put _ h3, ?_⟩⟩
    rw [← AF.put_comm af av u h2]
    exact h6 u σ' hp

/-- Whatever order is picked. -/
def anyA (P : Program) (ops : Array Oper) (K : AF → Items → Prop) : Nat → Array Bool → AF → Items → Prop
  | 0, listed, af, σ => Region.ready .any ops listed = [] ∧ K af σ
  | fuel + 1, listed, af, σ => (Region.ready .any ops listed = [] → K af σ) ∧ ∀ i ∈ Region.ready .any ops listed, stepA P ops i (anyA P ops K fuel (listed.setIfInBounds i true)) af σ

theorem anyA_first {K : AF → Items → Prop} {i : Nat} {oi : Oper} {av : AV} (hi : ops[i]? = some oi) :
    ∀ (fuel : Nat) (listed : Array Bool) (af : AF) (σ : Items),
      (∀ j oj, ops[j]? = some oj → j ≠ i → listed.getD j true = false → (∀ e ∈ oj.after, Region.binds .any e = true → e.on ≠ i) → oi.apart ops oj = true) →
      i ∈ Region.ready .any ops listed → YieldsA P ops oi av af →
      anyA P ops K fuel (listed.setIfInBounds i true) (af.put oi.dst av) σ → anyA P ops K (fuel + 1) listed af σ := by
  intro fuel
  induction fuel with
  | zero =>
    intro listed af σ _ hr hy H
    refine ⟨fun h => (by rw [h] at hr; cases hr), fun j hj => ?_⟩
    by_cases hji : j = i
    · subst hji; exact hy.step hi H
    · have := ready_mono hj hji
      rw [H.1] at this
      cases this
  | succ fuel ih =>
    intro listed af σ hfree hr hy H
    refine ⟨fun h => (by rw [h] at hr; cases hr), fun j hj => ?_⟩
    by_cases hji : j = i
    · subst hji; exact hy.step hi H
    · have h1 := H.2 j (ready_mono hj hji)
      obtain ⟨hjun, oj, hoj, hall⟩ := mem_ready.1 hj
      have hnot : ∀ e ∈ oj.after, Region.binds .any e = true → e.on ≠ i := fun e he hb heq => by
        have h1 := hall e he hb
        have h0 := (mem_ready.1 hr).1
        rw [heq] at h1
        rcases Nat.lt_or_ge i listed.size with h' | h'
        · simp [h'] at h0 h1; rw [h0] at h1; cases h1
        · simp [Array.getElem?_eq_none h'] at h1
      have h2 := stepA_put hoj (hfree j oj hoj hji hjun hnot) hy h1
      have hfree' : ∀ k ok, ops[k]? = some ok → k ≠ i → (listed.setIfInBounds j true).getD k true = false →
          (∀ e ∈ ok.after, Region.binds .any e = true → e.on ≠ i) → oi.apart ops ok = true := fun k ok hk hki hun hno => by
        refine hfree k ok hk hki ?_ hno
        by_cases hjk : j = k
        · subst hjk; exact hjun
        · rw [getD_set_ne true hjk] at hun; exact hun
      refine stepA_mono (fun af' σ' h3 => ih (listed.setIfInBounds j true) af' σ' hfree' (ready_mono hr (Ne.symm hji)) h3.1 ?_) h2
      rw [Array.setIfInBounds_comm _ _ hji]
      exact h3.2

/-- The walk in a fixed order; 'true': an operation that touches nothing in use. -/
def wpA (P : Program) (ops : Array Oper) (K : AF → Items → Prop) : List (Nat × Bool) → AF → Items → Prop
  | [], af, σ => K af σ
  | (i, true) :: rest, af, σ => ∃ o av, ops[i]? = some o ∧ YieldsA P ops o av af ∧ wpA P ops K rest (af.put o.dst av) σ
  | (i, false) :: rest, af, σ => stepA P ops i (wpA P ops K rest) af σ

/-- The order is one that serves for all. -/
def planB (ops : Array Oper) : List (Nat × Bool) → Array Bool → Bool
  | [], listed => (Region.ready .any ops listed).isEmpty
  | (i, true) :: rest, listed => (Region.ready .any ops listed).contains i && Region.free .any ops listed i && planB ops rest (listed.setIfInBounds i true)
  | (i, false) :: rest, listed => (Region.ready .any ops listed) == [i] && planB ops rest (listed.setIfInBounds i true)

theorem anyA_of_plan {K : AF → Items → Prop} : ∀ (plan : List (Nat × Bool)) (listed : Array Bool) (af : AF) (σ : Items), planB ops plan listed = true → wpA P ops K plan af σ → anyA P ops K plan.length listed af σ
  | [], listed, af, σ, hB, h => ⟨by simpa [planB] using hB, h⟩
  | (i, true) :: rest, listed, af, σ, hB, h => by
    simp only [planB, Bool.and_eq_true] at hB
    obtain ⟨⟨h1, h2⟩, h3⟩ := hB
    obtain ⟨o, av, ho, hy, hr⟩ := h
    exact anyA_first ho rest.length listed af σ (Region.free_spec ho h2) (by simpa using h1) hy (anyA_of_plan rest _ _ _ h3 hr)
  | (i, false) :: rest, listed, af, σ, hB, h => by
    simp only [planB, Bool.and_eq_true, beq_iff_eq] at hB
    obtain ⟨h1, h2⟩ := hB
    refine ⟨fun h0 => (by rw [h0] at h1; cases h1), fun j hj => ?_⟩
    rw [h1] at hj
    obtain rfl : j = i := by simpa using hj
    exact stepA_mono (fun af' σ' hr => anyA_of_plan rest _ af' σ' h2 hr) h

/-- Back to frames and worlds. -/
theorem Holds.out {af : AF} {σ : Items} {a : Act} {w w' : World} {post : AV → Items → Prop} {v : Value} {dst : Option Tmp} (hh : Holds E n af σ a w) (hd : ∀ d, dst = some d → d < n) (ho : Out E.F σ w post v w') :
    ∃ av σ', post av σ' ∧ Holds E n (af.put dst av) σ' (a.put dst v) w' := by
  obtain ⟨av, σ', hp, hg, hk, hn, hv⟩ := ho
  have hM : ∀ k, k < w.heap.size → both E.F (Items.own σ') k → both E.F (Items.own σ) k := fun k hlt hb => hb.imp id (fun ho => hn k ho hlt)
  refine ⟨av, σ', hp, ?_, ?_, ?_, ?_, hg, ?_⟩
  · cases dst <;> simp [Act.put, hh.tmps]
  · cases dst <;> simp [Act.put, hh.defers]
  · exact hh.kept.step hk hh.old
  · exact fun k ho hlt => hh.old k (hn k ho (Nat.lt_of_lt_of_le hlt hh.kept.size)) hlt
  · intro t
    cases dst with
    | none => exact (af t).keep (hk.mono (fun _ _ h => .inr h)) hM (hh.fits t)
    | some d =>
      have hdn := hd d rfl
      by_cases htd : t = d
      · subst htd
        rw [AF.put_same]
        simp only [Act.put]
        have : (a.tmps.setIfInBounds t v).getD t undef = v := by
          have := hh.tmps
          simp [this, hdn]
        rw [this]
        exact hv
      · rw [AF.put_other _ _ htd]
        simp only [Act.put]
        have : (a.tmps.setIfInBounds d v).getD t undef = a.tmps.getD t undef := by
          simp [Array.getElem?_setIfInBounds_ne (Ne.symm htd)]
        rw [this]
        exact (af t).keep (hk.mono (fun _ _ h => .inr h)) hM (hh.fits t)

def dstB (ops : Array Oper) (n : Nat) : Bool := ops.all fun o => match o.dst with | some d => decide (d < n) | none => true
theorem dstB_spec (h : dstB ops n = true) {i : Nat} {o : Oper} (ho : ops[i]? = some o) : ∀ d, o.dst = some d → d < n := by
  intro d hd
  have := Array.all_eq_true_iff_forall_mem.1 h o (Array.mem_of_getElem? ho)
  simpa [hd] using this

/-- A post over what is known. -/
def PostA (E : Env) (n : Nat) (QA : Exit → AF → Items → Prop) : Exit → Act → World → Prop := fun e a w => ∃ af σ, Holds E n af σ a w ∧ QA e af σ

theorem wpOp_of_stepA (hd : dstB ops n = true) {i : Nat} {K : AF → Items → Prop} {af : AF} {σ : Items} {a : Act} {w : World} (h : stepA P ops i K af σ) (hh : Holds E n af σ a w) :
    wpOp P ops Q i (fun a' w' => ∃ af' σ', Holds E n af' σ' a' w' ∧ K af' σ') a w := by
  unfold wpOp
  unfold stepA at h
  split
  · rename_i h0; simp only [h0] at h; exact ⟨af, σ, hh, h⟩
  · rename_i o h0
    simp only [h0] at h
    have hdst := dstB_spec hd h0
    rcases h with ⟨h1, h2⟩ | ⟨h1, post, h2, h3⟩
    · rw [if_neg (by rw [h1.wanted hh]; exact Bool.false_ne_true)]
      obtain ⟨av, σ', hp, hH⟩ := hh.out (post := fun a s => a = undefA ∧ s = σ) hdst (out_of_quiet (av := undefA) hh.good (Keeps.refl noB w) rfl)
      obtain ⟨rfl, rfl⟩ := hp
      exact ⟨_, _, hH, h2⟩
    · rw [if_pos (h1.wanted hh)]
      refine .inl ?_
      have h4 := h2 E.F w a.eval hh.good (fun x _ => hh.ev x)
      have fin : ∀ v w', Out E.F σ w post v w' → ∃ af' σ', Holds E n af' σ' (a.put o.dst v) w' ∧ K af' σ' := fun v w' ho => by
        obtain ⟨av, σ', hp, hH⟩ := hh.out hdst ho
        exact ⟨_, _, hH, h3 av σ' hp⟩
      unfold Oper.wp
      generalize (execOp a.eval o).run P w = r at h4
      cases r with
      | ok m w' =>
        cases m <;> simp only [Upon] at h4 <;> simp only [Oper.upon] <;> try exact h4.elim
        case value v => exact fin v w' h4
        case skip => exact fin undef w' h4
        case enter f args => exact h4.mono fun e w'' ⟨v, he, ho⟩ => by subst he; exact fin v w'' ho
        case row r args => exact h4.mono fun v w'' ho => fin v w'' ho
      | halt x w' => exact h4.elim

theorem wpAny_of_anyA (hd : dstB ops n = true) {QA : Exit → AF → Items → Prop} : ∀ (fuel : Nat) (listed : Array Bool) (af : AF) (σ : Items) (a : Act) (w : World),
    anyA P ops (QA .normal) fuel listed af σ → Holds E n af σ a w → wpAny P .any ops (PostA E n QA) fuel listed a w
  | 0, _, af, σ, _, _, h, hh => ⟨h.1, af, σ, hh, h.2⟩
  | fuel + 1, _, af, σ, _, _, h, hh => ⟨fun h0 => ⟨af, σ, hh, h.1 h0⟩, fun i hi => wpOp_mono (fun a' w' ⟨af', σ', hh', h'⟩ => wpAny_of_anyA hd fuel _ af' σ' a' w' h' hh') (wpOp_of_stepA hd (h.2 i hi) hh)⟩

theorem stepA_of_yields {K : AF → Items → Prop} {i : Nat} {rest : List (Nat × Bool)} {af : AF} {σ : Items} {b : Bool} (h : wpA P ops K ((i, b) :: rest) af σ) : stepA P ops i (wpA P ops K rest) af σ := by
  cases b with
  | false => exact h
  | true =>
    obtain ⟨o, av, ho, hy, hr⟩ := h
    exact hy.step ho hr

theorem wpOps_of_wpA (hd : dstB ops n = true) {QA : Exit → AF → Items → Prop} : ∀ (plan : List (Nat × Bool)) (af : AF) (σ : Items) (a : Act) (w : World),
    wpA P ops (QA .normal) plan af σ → Holds E n af σ a w → wpOps P ops (PostA E n QA) (plan.map (·.1)) a w
  | [], af, σ, _, _, h, hh => ⟨af, σ, hh, h⟩
  | (i, b) :: rest, af, σ, a, w, h, hh => by
    rw [List.map_cons, wpOps_cons]
    exact wpOp_mono (fun a' w' ⟨af', σ', hh', h'⟩ => wpOps_of_wpA hd rest af' σ' a' w' h' hh') (wpOp_of_stepA hd (stepA_of_yields h) hh)

theorem Holds.drew {af : AF} {σ : Items} {a : Act} {w : World} (hh : Holds E n af σ a w) : Holds E n af σ a { w with drawn := w.drawn + 1 } :=
  ⟨hh.tmps, hh.defers, hh.kept.trans (Keeps.drew _ _), hh.old, hh.good.keep (Keeps.drew _ _), fun t => (af t).keep (Keeps.drew _ _) (fun _ _ h => h) (hh.fits t)⟩

/-! ### Code -/
def awp (P : Program) (E : Env) (n : Nat) (c : Code) (QA : Exit → AF → Items → Prop) (af : AF) (σ : Items) : Prop :=
  ∀ a w, Holds E n af σ a w → c.wp P (PostA E n QA) a w

variable {QA : Exit → AF → Items → Prop} {af : AF} {σ : Items}

theorem awp_region {id : Nat} (plan : List (Nat × Bool)) (hm : P.follows .mixedOrders = true) (hd : dstB ops n = true) (hB : (planB ops plan (Array.replicate ops.size false) && plan.length == ops.size) = true)
    (h : wpA P ops (QA .normal) plan af σ) : awp P E n (.region id ops true) QA af σ := by
  intro a w hh
  simp only [Bool.and_eq_true, beq_iff_eq] at hB
  refine wp_region_any hm ?_
  have h1 := anyA_of_plan plan _ af σ hB.1 h
  rw [hB.2] at h1
  exact wpAny_of_anyA hd _ _ af σ a _ h1 hh.drew

theorem awp_plain {id : Nat} (plan : List (Nat × Bool)) (hd : dstB ops n = true) (hB : (plan.map (·.1) == List.range ops.size) = true)
    (h : wpA P ops (QA .normal) plan af σ) : awp P E n (.region id ops false) QA af σ := by
  intro a w hh
  refine wp_region ?_
  rw [← beq_iff_eq.1 hB]
  exact wpOps_of_wpA hd plan af σ a w h hh

def thenA (K : AF → Items → Prop) (QA : Exit → AF → Items → Prop) : Exit → AF → Items → Prop
  | .normal, af, σ => K af σ
  | e, af, σ => QA e af σ
theorem awp_mono {c : Code} {QA' : Exit → AF → Items → Prop} (h : awp P E n c QA af σ) (hq : ∀ e af σ, QA e af σ → QA' e af σ) : awp P E n c QA' af σ :=
  fun a w hh => wp_mono (h a w hh) (fun _ _ _ ⟨af', σ', hh', h'⟩ => ⟨af', σ', hh', hq _ _ _ h'⟩)

theorem awp_skip (h : QA .normal af σ) : awp P E n .skip QA af σ := fun _ _ hh => wp_skip ⟨af, σ, hh, h⟩
theorem awp_label {l : Nat} (h : QA .normal af σ) : awp P E n (.label l) QA af σ := fun _ _ hh => wp_label ⟨af, σ, hh, h⟩
theorem awp_exit {id : Nat} (h : QA (.exit id) af σ) : awp P E n (.exit id) QA af σ := fun _ _ hh => wp_exit ⟨af, σ, hh, h⟩
theorem awp_ret (h : QA .ret af σ) : awp P E n .ret QA af σ := fun _ _ hh => wp_ret ⟨af, σ, hh, h⟩

theorem awp_seq {x y : Code} (h : awp P E n x (thenA (awp P E n y QA) QA) af σ) : awp P E n (.seq x y) QA af σ := by
  intro a w hh
  refine wp_seq (wp_mono (h a w hh) ?_)
  rintro e a' w' ⟨af', σ', hh', h'⟩
  cases e with
  | normal => exact h' a' w' hh'
  | _ => exact ⟨af', σ', hh', h'⟩

theorem awp_cond {c : Operand} {x y : Code} (t : Bool) (hc : af.ev c = .exact (.bool t)) (ht : t = true → awp P E n x QA af σ) (hf : t = false → awp P E n y QA af σ) : awp P E n (.cond c x y) QA af σ := by
  intro a w hh
  have h1 := hh.ev c
  rw [hc] at h1
  exact wp_cond_split h1 (fun e => ht e a w hh) (fun e => hf e a w hh)

def blockA (id : Nat) (QA : Exit → AF → Items → Prop) : Exit → AF → Items → Prop
  | .exit id', af, σ => if id' = id then QA .normal af σ else QA (.exit id') af σ
  | e, af, σ => QA e af σ
theorem awp_block {id : Nat} {c : Code} (h : awp P E n c (blockA id QA) af σ) : awp P E n (.block id c) QA af σ := by
  intro a w hh
  refine wp_block (wp_mono (h a w hh) ?_)
  rintro e a' w' ⟨af', σ', hh', h'⟩
  cases e with
  | exit id' =>
    simp only [blockA] at h'
    simp only [Exit.inBlock]
    split
    · rename_i e; rw [if_pos e] at h'; exact ⟨af', σ', hh', h'⟩
    · rename_i e; rw [if_neg e] at h'; exact ⟨af', σ', hh', h'⟩
  | _ => exact ⟨af', σ', hh', h'⟩

/-- The walk of the text's order over the operations themselves, none of which touches what is in use. -/
def wpL (P : Program) (ops : Array Oper) (K : AF → Items → Prop) : List Oper → AF → Items → Prop
  | [], af, σ => K af σ
  | o :: rest, af, σ => ∃ av, YieldsA P ops o av af ∧ wpL P ops K rest (af.put o.dst av) σ

theorem anyA_of_lex {K : AF → Items → Prop} : ∀ (l : List Oper) (k : Nat) (listed : Array Bool) (af : AF) (σ : Items), (∀ j, l[j]? = ops[k + j]?) →
    Region.lexFrom .any ops l.length k listed = true → wpL P ops K l af σ → anyA P ops K l.length listed af σ
  | [], _, _, _, _, _, hB, h => ⟨by simpa [Region.lexFrom] using hB, h⟩
  | o :: l, k, listed, af, σ, hl, hB, h => by
    have h0 : ops[k]? = some o := by simpa using (hl 0).symm
    simp only [List.length_cons, Region.lexFrom, Bool.and_eq_true] at hB
    obtain ⟨⟨hr, hf⟩, hB'⟩ := hB
    obtain ⟨av, hy, hK⟩ := h
    exact anyA_first h0 l.length listed af σ (Region.free_spec h0 hf) (by simpa using hr) hy
      (anyA_of_lex l (k + 1) _ _ σ (fun j => by have := hl (j + 1); simpa [Nat.add_assoc, Nat.add_comm 1 j] using this) hB' hK)

theorem wpOps_of_lex (hd : dstB ops n = true) {QA : Exit → AF → Items → Prop} : ∀ (l : List Oper) (k : Nat) (af : AF) (σ : Items) (a : Act) (w : World), (∀ j, l[j]? = ops[k + j]?) →
    wpL P ops (QA .normal) l af σ → Holds E n af σ a w → wpOps P ops (PostA E n QA) (List.range' k l.length) a w
  | [], _, af, σ, _, _, _, h, hh => ⟨af, σ, hh, h⟩
  | o :: l, k, af, σ, a, w, hl, h, hh => by
    have h0 : ops[k]? = some o := by simpa using (hl 0).symm
    obtain ⟨av, hy, hK⟩ := h
    rw [List.length_cons, List.range'_succ, wpOps_cons]
    exact wpOp_mono (fun a' w' ⟨af', σ', hh', h'⟩ => wpOps_of_lex hd l (k + 1) af' σ' a' w' (fun j => by have := hl (j + 1); simpa [Nat.add_assoc, Nat.add_comm 1 j] using this) h' hh') (wpOp_of_stepA hd (hy.step h0 hK) hh)

theorem awp_lex {id : Nat} {l : List Oper} {draw : Bool} (hm : P.follows .mixedOrders = true) (hd : dstB l.toArray n = true) (hB : (!draw || Region.lexFrom .any l.toArray l.length 0 (Array.replicate l.length false)) = true)
    (h : wpL P l.toArray (QA .normal) l af σ) : awp P E n (.region id l.toArray draw) QA af σ := by
  intro a w hh
  cases draw with
  | true =>
    refine wp_region_any hm ?_
    have h1 := anyA_of_lex l 0 (Array.replicate l.length false) af σ (by simp) (by simpa using hB) h
    simpa using wpAny_of_anyA hd _ _ af σ a _ h1 hh.drew
  | false =>
    refine wp_region ?_
    have h1 := wpOps_of_lex hd l 0 af σ a w (by simp) h hh
    simpa [List.range_eq_range'] using h1

/-- What follows: code, a block's end, a loop's relation, the end. -/
abbrev KFr := Sum Code (Sum Nat (Sum (AF → Items → Prop) (Exit → AF → Items → Prop)))
abbrev kC (c : Code) : KFr := .inl c
abbrev kB (id : Nat) : KFr := .inr (.inl id)
abbrev kI (I : AF → Items → Prop) : KFr := .inr (.inr (.inl I))
abbrev kP (Q : Exit → AF → Items → Prop) : KFr := .inr (.inr (.inr Q))
def den (P : Program) (E : Env) (n : Nat) : List KFr → Exit → AF → Items → Prop
  | [] => fun _ _ _ => False
  | .inl c :: ks => thenA (awp P E n c (den P E n ks)) (den P E n ks)
  | .inr (.inl id) :: ks => blockA id (den P E n ks)
  | .inr (.inr (.inl I)) :: ks => thenA I (den P E n ks)
  | .inr (.inr (.inr Q)) :: _ => Q
variable {ks : List KFr}
theorem k_seq {x y : Code} (h : awp P E n x (den P E n (kC y :: ks)) af σ) : awp P E n (.seq x y) (den P E n ks) af σ := awp_seq h
theorem k_block {id : Nat} {c : Code} (h : awp P E n c (den P E n (kB id :: ks)) af σ) : awp P E n (.block id c) (den P E n ks) af σ := awp_block h
theorem kC_normal {c : Code} (h : awp P E n c (den P E n ks) af σ) : den P E n (kC c :: ks) .normal af σ := h
theorem kC_exit {c : Code} {id : Nat} (h : den P E n ks (.exit id) af σ) : den P E n (kC c :: ks) (.exit id) af σ := h
theorem kC_ret {c : Code} (h : den P E n ks .ret af σ) : den P E n (kC c :: ks) .ret af σ := h
theorem kI_normal {I : AF → Items → Prop} (h : I af σ) : den P E n (kI I :: ks) .normal af σ := h
theorem kI_exit {I : AF → Items → Prop} {id : Nat} (h : den P E n ks (.exit id) af σ) : den P E n (kI I :: ks) (.exit id) af σ := h
theorem kI_ret {I : AF → Items → Prop} (h : den P E n ks .ret af σ) : den P E n (kI I :: ks) .ret af σ := h
theorem kB_normal {id : Nat} (h : den P E n ks .normal af σ) : den P E n (kB id :: ks) .normal af σ := h
theorem kB_ret {id : Nat} (h : den P E n ks .ret af σ) : den P E n (kB id :: ks) .ret af σ := h
theorem kB_exit {id : Nat} (h : den P E n ks .normal af σ) : den P E n (kB id :: ks) (.exit id) af σ := by show blockA _ _ _ _ _; simp only [blockA, if_pos]; exact h
theorem kB_pass {id id' : Nat} (hne : (id' == id) = false) (h : den P E n ks (.exit id') af σ) : den P E n (kB id :: ks) (.exit id') af σ := by
  show blockA _ _ _ _ _; simp only [blockA]; rw [if_neg (by simpa using hne)]; exact h
theorem kP_any {Q : Exit → AF → Items → Prop} {e : Exit} (h : Q e af σ) : den P E n (kP Q :: ks) e af σ := h
theorem k_ret (h : den P E n ks .ret af σ) : awp P E n .ret (den P E n ks) af σ := awp_ret h
theorem k_skip (h : den P E n ks .normal af σ) : awp P E n .skip (den P E n ks) af σ := awp_skip h
theorem k_exit {id : Nat} (h : den P E n ks (.exit id) af σ) : awp P E n (.exit id) (den P E n ks) af σ := awp_exit h
theorem k_cond {c : Operand} {x y : Code} (t : Bool) (hc : af.ev c = .exact (.bool t)) (ht : t = true → awp P E n x (den P E n ks) af σ) (hf : t = false → awp P E n y (den P E n ks) af σ) : awp P E n (.cond c x y) (den P E n ks) af σ := awp_cond t hc ht hf
theorem k_cond_t {c : Operand} {x y : Code} (hc : af.ev c = .exact (.bool true)) (ht : awp P E n x (den P E n ks) af σ) : awp P E n (.cond c x y) (den P E n ks) af σ := awp_cond true hc (fun _ => ht) (fun h => by cases h)
theorem k_cond_f {c : Operand} {x y : Code} (hc : af.ev c = .exact (.bool false)) (hf : awp P E n y (den P E n ks) af σ) : awp P E n (.cond c x y) (den P E n ks) af σ := awp_cond false hc (fun h => by cases h) (fun _ => hf)
theorem k_cond_d {c : Operand} {x y : Code} {p : Prop} [Decidable p] (hc : af.ev c = .exact (.bool (decide p))) (ht : p → awp P E n x (den P E n ks) af σ) (hf : ¬ p → awp P E n y (den P E n ks) af σ) : awp P E n (.cond c x y) (den P E n ks) af σ :=
  awp_cond _ hc (fun h => ht (of_decide_eq_true h)) (fun h => hf (of_decide_eq_false h))
def lexB (l : List Oper) (n : Nat) (draw : Bool) : Bool := dstB l.toArray n && (!draw || Region.lexFrom .any l.toArray l.length 0 (Array.replicate l.length false))
theorem k_lex {id : Nat} {l : List Oper} {draw : Bool} (hm : P.follows .mixedOrders = true) (hB : lexB l n draw = true)
    (h : wpL P l.toArray (den P E n ks .normal) l af σ) : awp P E n (.region id l.toArray draw) (den P E n ks) af σ := by
  simp only [lexB, Bool.and_eq_true] at hB
  exact awp_lex hm hB.1 hB.2 h

/-- Weaker knowledge. -/
def AV.le (x y : AV) : Prop := ∀ M w v, x.p M w v → y.p M w v
theorem AV.le_refl (x : AV) : AV.le x x := fun _ _ _ h => h
theorem AV.le_top (x : AV) : AV.le x .top := fun _ _ _ _ => trivial
theorem AV.le_eq {x y : AV} (h : x = y) : AV.le x y := h ▸ AV.le_refl x
def AF.le (x y : AF) : Prop := ∀ t, AV.le (x t) (y t)
theorem AF.le_top (x : AF) : AF.le x (fun _ => .top) := fun _ _ _ _ _ => trivial
theorem AF.le_put {x y : AF} {d : Nat} {av : AV} (h1 : AV.le (x d) av) (h2 : AF.le x y) : AF.le x (y.put (some d) av) := fun t => by
  by_cases h : t = d
  · subst h; rw [AF.put_same]; exact h1
  · rw [AF.put_other _ _ h]; exact h2 t
theorem AF.le_refl (x : AF) : AF.le x x := fun _ => AV.le_refl _

/-- A step of thought. -/
def Sub (E : Env) (n : Nat) (af : AF) (σ : Items) (af' : AF) (σ' : Items) : Prop := ∀ a w, Holds E n af σ a w → Holds E n af' σ' a w
theorem Sub.of_le {af' : AF} (h : AF.le af af') : Sub E n af σ af' σ := fun _ _ hh => ⟨hh.tmps, hh.defers, hh.kept, hh.old, hh.good, fun t => h t _ _ _ (hh.fits t)⟩
theorem awp_sub {c : Code} {af' : AF} {σ' : Items} (h : Sub E n af σ af' σ') (h' : awp P E n c QA af' σ') : awp P E n c QA af σ := fun a w hh => h' a w (h a w hh)

theorem awp_loop {c : Code} {α : Type} (I : α → AF) (S : α → Items) (pre : α → Prop) (μ : α → Nat) (x0 : α) (hp : pre x0) (h0 : Sub E n af σ (I x0) (S x0))
    (round : ∀ x, pre x → awp P E n c (thenA (fun af' σ' => ∃ x', pre x' ∧ μ x' < μ x ∧ Sub E n af' σ' (I x') (S x')) QA) (I x) (S x)) : awp P E n (.loop c) QA af σ := by
  intro a w hh b k cs
  have key : ∀ m x, μ x = m → pre x → ∀ a w, Holds E n (I x) (S x) a w →
      ∃ e a' w', PostA E n QA e a' w' ∧ Arrives P (lone (b.at a (.code c :: .inLoop c :: k)) cs w) b k cs e a' w' := by
    intro m
    induction m using Nat.strongRecOn with
    | _ m ih =>
      intro x hm hpx a w hh
      obtain ⟨e, a₁, w₁, ⟨af', σ', hh', hq⟩, harr⟩ := round x hpx a w hh b (.inLoop c :: k) cs
      cases e with
      | normal =>
        obtain ⟨x', hp', hlt, hs⟩ := hq
        obtain ⟨e₂, a₂, w₂, hq₂, harr₂⟩ := ih (μ x') (hm ▸ hlt) x' rfl hp' a₁ w₁ (hs _ _ hh')
        exact ⟨e₂, a₂, w₂, hq₂, .of_steps (Steps.trans harr (.one step_inLoop)) harr₂⟩
      | exit id => exact ⟨_, a₁, w₁, ⟨af', σ', hh', hq⟩, .pass (x := .inLoop c) rfl (fun _ _ => .inl (by simp)) harr⟩
      | goto l => exact ⟨_, a₁, w₁, ⟨af', σ', hh', hq⟩, .pass (x := .inLoop c) rfl (fun _ _ => .inl (by simp)) harr⟩
      | ret => exact ⟨_, a₁, w₁, ⟨af', σ', hh', hq⟩, .pass (x := .inLoop c) rfl (fun _ _ => .inl (by simp)) harr⟩
      | panic ch => exact ⟨_, a₁, w₁, ⟨af', σ', hh', hq⟩, .pass (x := .inLoop c) rfl (fun _ _ => .inl (by simp)) harr⟩
      | outgrown => exact ⟨_, a₁, w₁, ⟨af', σ', hh', hq⟩, .pass (x := .inLoop c) rfl (fun _ _ => .inl (by simp)) harr⟩
  obtain ⟨e, a', w', hq, harr⟩ := key _ x0 rfl hp a w (h0 a w hh)
  exact ⟨e, a', w', hq, .of_steps (.one step_loop) harr⟩

theorem k_loop {c : Code} {α : Type} (I : α → AF) (S : α → Items) (pre : α → Prop) (μ : α → Nat) (x0 : α) (hp : pre x0) (h0 : Sub E n af σ (I x0) (S x0))
    (round : ∀ x, pre x → awp P E n c (den P E n (kI (fun af' σ' => ∃ x', pre x' ∧ μ x' < μ x ∧ Sub E n af' σ' (I x') (S x')) :: ks)) (I x) (S x)) : awp P E n (.loop c) (den P E n ks) af σ :=
  awp_loop I S pre μ x0 hp h0 round
theorem k_end {c : Code} {Q : Exit → AF → Items → Prop} (h : awp P E n c (den P E n [kP Q]) af σ) : awp P E n c Q af σ := h

/-! ### Functions -/
def Fit (M : BSet) (w : World) : List AV → List Value → Prop
  | [], [] => True
  | x :: xs, v :: vs => x.p M w v ∧ Fit M w xs vs
  | _, _ => False
theorem Fit.length {M : BSet} {w : World} : ∀ {xs : List AV} {vs : List Value}, Fit M w xs vs → xs.length = vs.length
  | [], [], _ => rfl
  | _ :: _, _ :: _, h => by simp [Fit.length h.2]
theorem Fit.get {M : BSet} {w : World} : ∀ {xs : List AV} {vs : List Value}, Fit M w xs vs → ∀ t, (xs.getD t .top).p M w (vs.getD t undef)
  | [], [], _, _ => trivial
  | _ :: _, _ :: _, h, 0 => h.1
  | _ :: _, _ :: _, h, t + 1 => by simpa using Fit.get h.2 t
theorem Fit.keep {M M' : BSet} {w w' : World} (hk : Keeps M w w') (hm : ∀ k, k < w.heap.size → M' k → M k) : ∀ {xs : List AV} {vs : List Value}, Fit M w xs vs → Fit M' w' xs vs
  | [], [], _ => trivial
  | x :: _, _ :: _, h => ⟨x.keep hk hm h.1, Fit.keep hk hm h.2⟩

/-- A tuple. -/
def AV.tup (l : List AV) : AV := ⟨fun M w v => ∃ vs : List Value, v = .tuple vs.toArray ∧ Fit M w l vs, fun hk hm ⟨vs, h1, h2⟩ => ⟨vs, h1, h2.keep hk hm⟩⟩

/-- The function, from what is known of its arguments and of the things in use. -/
def Fun (P : Program) (f : FuncId) (args : List AV) (σ : Items) (post : AV → Items → Prop) : Prop :=
  ∀ F w vs, Good F σ w → Fit (both F (Items.own σ)) w args vs → Calls P f vs.toArray w fun e w' => ∃ v, e = .returned v ∧ Out F σ w post v w'

/-- A function that touches nothing in use and gives back r. -/
def Pure (P : Program) (f : FuncId) (args : List AV) (r : AV) : Prop :=
  ∀ M w vs, (∀ k, M k → k < w.heap.size) → Fit M w args vs → Calls P f vs.toArray w fun e w' => ∃ v, e = .returned v ∧ Keeps noB w w' ∧ r.p M w' v

def resA (rs : List ResultVar) (af : AF) : AV :=
  match rs with
  | [.tmp t] => af t
  | rs => .tup (rs.map fun | .tmp t => af t | .cell _ _ => .top)
def plainRes (rs : List ResultVar) : Bool := rs.all fun | .tmp _ => true | _ => false

theorem fit_res {M : BSet} {w : World} {af : AF} {a : Act} (h : ∀ t, (af t).p M w (a.tmps.getD t undef)) : ∀ rs : List ResultVar, plainRes rs = true → Fit M w (rs.map fun | .tmp t => af t | .cell _ _ => .top) (rs.map fun | .tmp t => a.tmps.getD t undef | .cell _ _ => undef)
  | [], _ => trivial
  | .tmp t :: rs, hp => ⟨h t, fit_res h rs (by simpa [plainRes] using hp)⟩

def resV (rs : List ResultVar) (tmps : Array Value) : Value :=
  match rs with
  | [.tmp t] => tmps.getD t undef
  | rs => .tuple (rs.map fun | .tmp t => tmps.getD t undef | .cell _ _ => undef).toArray

theorem res1 {fn : Func} {r1 : Tmp} (h : fn.results = #[.tmp r1]) (tmps : Array Value) (w : World) : (results fn tmps).run P w = .ok (resV fn.results.toList tmps) w := by
  simp [results, h, go_sem, resV]
theorem res2 {fn : Func} {r1 r2 : Tmp} (h : fn.results = #[.tmp r1, .tmp r2]) (tmps : Array Value) (w : World) : (results fn tmps).run P w = .ok (resV fn.results.toList tmps) w := by
  simp [results, h, go_sem, resV]
theorem res3 {fn : Func} {r1 r2 r3 : Tmp} (h : fn.results = #[.tmp r1, .tmp r2, .tmp r3]) (tmps : Array Value) (w : World) : (results fn tmps).run P w = .ok (resV fn.results.toList tmps) w := by
  simp [results, h, go_sem, resV]
theorem res0 {fn : Func} (h : fn.results = #[]) (tmps : Array Value) (w : World) : (results fn tmps).run P w = .ok (resV fn.results.toList tmps) w := by
  simp [results, h, go_sem, resV]

/-- The end of a body: its result, and what stays in use. -/
def EndA (fn : Func) (E : Env) (n : Nat) (post : AV → Items → Prop) : Exit → AF → Items → Prop
  | .normal, af, σ | .ret, af, σ => ∃ af' σ' , Sub E n af σ af' σ' ∧ post (resA fn.results.toList af') σ'
  | _, _, _ => False

theorem le_upd {t : Nat} {r : AV} (h : AV.le (af t) r) : AF.le af (af.put (some t) r) := AF.le_put h (AF.le_refl _)
theorem end1 {fn : Func} {r : AV} {t1 : Tmp} (hr : fn.results = #[.tmp t1]) (h1 : AV.le (af t1) r) : EndA fn E n (fun a s => a = r ∧ s = σ) .ret af σ :=
  ⟨af.put (some t1) r, σ, Sub.of_le (le_upd h1), by rw [hr]; exact AF.put_same _ _ _, rfl⟩
theorem AV.tup_le : ∀ {xs ys : List AV}, xs.length = ys.length → (∀ i, AV.le (xs.getD i .top) (ys.getD i .top)) → ∀ {M w vs}, Fit M w xs vs → Fit M w ys vs
  | [], [], _, _, _, _, [], _ => trivial
  | x :: xs, y :: ys, hl, h, M, w, v :: vs, hf => ⟨h 0 _ _ _ hf.1, AV.tup_le (xs := xs) (ys := ys) (by simpa using hl) (fun i => by simpa using h (i + 1)) hf.2⟩
theorem end2 {fn : Func} {r1 r2 : AV} {t1 t2 : Tmp} (hr : fn.results = #[.tmp t1, .tmp t2]) (hne : (t1 == t2) = false) (h1 : AV.le (af t1) r1) (h2 : AV.le (af t2) r2) : EndA fn E n (fun a s => a = .tup [r1, r2] ∧ s = σ) .ret af σ := by
  have n1 : t1 ≠ t2 := by simpa using hne
  refine ⟨(af.put (some t1) r1).put (some t2) r2, σ, Sub.of_le ?_, ?_, rfl⟩
  · exact fun t => by
      by_cases e2 : t = t2
      · subst e2; rw [AF.put_same]; exact h2
      · rw [AF.put_other _ _ e2]; exact le_upd h1 t
  · rw [hr]; show AV.tup [((af.put (some t1) r1).put (some t2) r2) t1, ((af.put (some t1) r1).put (some t2) r2) t2] = _; simp only [AF.put_same, AF.put_other _ _ n1]
theorem end3 {fn : Func} {r1 r2 r3 : AV} {t1 t2 t3 : Tmp} (hr : fn.results = #[.tmp t1, .tmp t2, .tmp t3]) (hne : (t1 != t2 && t1 != t3 && t2 != t3) = true) (h1 : AV.le (af t1) r1) (h2 : AV.le (af t2) r2) (h3 : AV.le (af t3) r3) : EndA fn E n (fun a s => a = .tup [r1, r2, r3] ∧ s = σ) .ret af σ := by
  simp only [Bool.and_eq_true, bne_iff_ne] at hne
  obtain ⟨⟨n1, n2⟩, n3⟩ := hne
  refine ⟨((af.put (some t1) r1).put (some t2) r2).put (some t3) r3, σ, Sub.of_le ?_, ?_, rfl⟩
  · exact fun t => by
      by_cases e3 : t = t3
      · subst e3; rw [AF.put_same]; exact h3
      · rw [AF.put_other _ _ e3]
        by_cases e2 : t = t2
        · subst e2; rw [AF.put_same]; exact h2
        · rw [AF.put_other _ _ e2]; exact le_upd h1 t
  · rw [hr]; show AV.tup [(((af.put (some t1) r1).put (some t2) r2).put (some t3) r3) t1, (((af.put (some t1) r1).put (some t2) r2).put (some t3) r3) t2, (((af.put (some t1) r1).put (some t2) r2).put (some t3) r3) t3] = _; simp only [AF.put_same, AF.put_other _ _ n1, AF.put_other _ _ n2, AF.put_other _ _ n3]

def ofArgs (args : List AV) : AF := fun t => args.getD t .top

theorem fun_of_awp {f : FuncId} {fn : Func} {c : Code} {args : List AV} {post : AV → Items → Prop} (hf : P.funcs[f]? = some fn) (hb : fn.body = some c) (hnt : fn.ntmps = n) (hle : args.length ≤ n) (hr : plainRes fn.results.toList = true)
    (hres : ∀ tmps w, (results fn tmps).run P w = .ok (resV fn.results.toList tmps) w)
    (h : ∀ E, (∀ k, E.M0 k ↔ Items.own σ k) → awp P E n c (EndA fn E n post) (ofArgs args) σ) : Fun P f args σ post := by
  intro F w vs hg hfit
  have hlen := hfit.length
  refine calls_of_wp hf hb ?_
  have hh : Holds ⟨w, Items.own σ, F⟩ n (ofArgs args) σ { tmps := vs.toArray ++ Array.replicate (fn.ntmps - vs.toArray.size) undef, defers := [] } w := by
    refine ⟨by simp [← hlen, hnt]; omega, rfl, Keeps.refl _ _, fun _ h _ => h, hg, fun t => ?_⟩
    have h1 := hfit.get t
    rcases Nat.lt_or_ge t vs.length with hlt | hge
    · have : (vs.toArray ++ Array.replicate (fn.ntmps - vs.toArray.size) undef).getD t undef = vs.getD t undef := by
        simp [Array.getElem?_append, hlt]
      simp only [this]
      exact h1
    · have : args.getD t .top = .top := by simp [List.getElem?_eq_none (by omega : args.length ≤ t)]
      show (args.getD t AV.top).p _ _ _
      rw [this]
      trivial
  refine wp_mono (h ⟨w, Items.own σ, F⟩ (fun _ => Iff.rfl) _ _ hh) ?_
  have fin : ∀ a' w' af' σ', Holds ⟨w, Items.own σ, F⟩ n af' σ' a' w' → post (resA fn.results.toList af') σ' →
      a'.defers = [] ∧ ∃ v, (results fn a'.tmps).run P w' = .ok v w' ∧ ∃ v_1, Ending.returned v = .returned v_1 ∧ Out F σ w post v_1 w' := by
    intro a' w' af' σ' hh' hp
    refine ⟨hh'.defers, _, hres _ _, _, rfl, _, σ', hp, hh'.good, hh'.kept, hh'.old, ?_⟩
    have h2 := fit_res hh'.fits _ hr
    generalize fn.results.toList = rs at h2
    match rs, h2 with
    | [.tmp t], h2 => exact h2.1
    | [], h2 => exact ⟨_, rfl, h2⟩
    | [.cell _ _], h2 => exact ⟨_, rfl, h2⟩
    | .tmp _ :: _ :: _, h2 => exact ⟨_, rfl, h2⟩
    | .cell _ _ :: _ :: _, h2 => exact ⟨_, rfl, h2⟩
  rintro e a' w' ⟨af', σ', hh', hq⟩
  cases e with
  | normal => obtain ⟨af2, σ2, hs, hp⟩ := hq; exact fin a' w' af2 σ2 (hs _ _ hh') hp
  | ret => obtain ⟨af2, σ2, hs, hp⟩ := hq; exact fin a' w' af2 σ2 (hs _ _ hh') hp
  | _ => exact hq.elim

theorem Pure.toFun {f : FuncId} {args : List AV} {r : AV} (h : Pure P f args r) (σ : Items) : Fun P f args σ (fun a s => a = r ∧ s = σ) :=
  fun _ w vs hg hfit => (h _ w vs hg.lt hfit).mono fun _ _ ⟨v, he, hk, hp⟩ => ⟨v, he, out_of_quiet hg hk hp⟩
theorem Pure.ofFun {f : FuncId} {args : List AV} {r : AV} (h : Fun P f args [] (fun a s => a = r ∧ s = [])) : Pure P f args r := by
  intro M w vs hM hfit
  have hown : ∀ k, ¬ Items.own [] k := fun k hk => by simp [Items.own] at hk
  refine (h M w vs ⟨hM, fun k hk => (hown k hk).elim, List.nodup_nil, fun it hi => by cases hi⟩ (hfit.keep (Keeps.refl _ _) (fun k _ hk => hk.elim id (fun h => (hown k h).elim)))).mono ?_
  rintro e w' ⟨v, he, av, σ', ⟨rfl, rfl⟩, hg, hk, _, hp⟩
  exact ⟨v, he, hk.mono (fun k _ ho => (hown k ho).elim), av.keep (Keeps.refl _ _) (fun k _ hm => .inl hm) hp⟩
end
end Go.Proofs.Ytkplmgdmkfgjhaa
