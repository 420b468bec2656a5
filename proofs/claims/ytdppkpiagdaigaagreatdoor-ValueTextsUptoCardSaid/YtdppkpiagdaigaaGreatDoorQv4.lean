/- Regions in whatever order, with quiet operations, reads of what is in use, and changes of it: one walk serves if those that clash are tied by edges. -/
import Derived.Test.YtdppkpiagdaigaaGreatDoorQv3
import Derived.Lib.AppendZeros
import Derived.Test.YtdppkpiagdaigaaGreatDoorRows
import Derived.ProofKit
import Derived.OpenShut
import Derived.Deep.Slices
import Derived.Deep.Strs
import Derived.JoinedCond
import Derived.Lib.AppendStr
import Derived.Shelf.SlSortCmp.NoneTotal
import Derived.Sort.OwnSortedInts
import Derived.Test.YtdppkpiagdaigaaGreatDoorQv0
import Derived.Shelf.SortM.Plain
import Derived.Shelf.SortM.SortNone
import Derived.Lone
import Derived.StepT
import Derived.Calls
namespace Go.Proofs.YtdppkpiagdaigaaGreatDoor
open Go.RowKit

section
variable {P : Program} {ops : Array Oper} {E : Env} {n : Nat} {QA : Exit → AF → Items → Prop} {af : AF} {σ : Items}

/-- Operation j waits for i, directly or not. -/
inductive Dep (ops : Array Oper) (i : Nat) : Nat → Prop where
  | one {j : Nat} {o : Oper} {e : Edge} (h : ops[j]? = some o) (he : e ∈ o.after) (hb : Region.binds .any e = true) (hi : e.on = i) : Dep ops i j
  | more {j : Nat} {o : Oper} {e : Edge} (h : ops[j]? = some o) (he : e ∈ o.after) (hb : Region.binds .any e = true) (hd : Dep ops i e.on) : Dep ops i j
def Down (ops : Array Oper) (listed : Array Bool) : Prop := ∀ j o, ops[j]? = some o → listed.getD j false = true → ∀ e ∈ o.after, Region.binds .any e = true → listed.getD e.on false = true
theorem Dep.unlisted {i j : Nat} {listed : Array Bool} (hd : Dep ops i j) (hD : Down ops listed) (hi : listed.getD i false = false) : listed.getD j false = false ∧ j ∉ Region.ready .any ops listed := by
  induction hd with
  | one h he hb hi' =>
    subst hi'
    constructor
    · cases hl : listed.getD _ false with
      | false => rfl
      | true => have := hD _ _ h hl _ he hb; rw [hi] at this; cases this
    · intro hr
      obtain ⟨_, o', ho', hall⟩ := mem_ready.1 hr
      rw [h] at ho'; injection ho' with ho'; subst ho'
      have := hall _ he hb
      rw [hi] at this; cases this
  | more h he hb _ ih =>
    constructor
    · cases hl : listed.getD _ false with
      | false => rfl
      | true => have := hD _ _ h hl _ he hb; rw [ih.1] at this; cases this
    · intro hr
      obtain ⟨_, o', ho', hall⟩ := mem_ready.1 hr
      rw [h] at ho'; injection ho' with ho'; subst ho'
      have := hall _ he hb
      rw [ih.1] at this; cases this
theorem Down.step {i : Nat} {listed : Array Bool} (hD : Down ops listed) (hr : i ∈ Region.ready .any ops listed) : Down ops (listed.setIfInBounds i true) := by
  intro j o ho hj e he hb
  obtain ⟨_, oi, hoi, hall⟩ := mem_ready.1 hr
  refine getD_set_true ?_
  by_cases hji : j = i
  · subst hji; rw [hoi] at ho; injection ho with ho; subst ho; exact hall e he hb
  · rw [getD_set_ne false (Ne.symm hji)] at hj; exact hD j o ho hj e he hb

/-- Those that wait for i, among the operations from k on. -/
def reach (i : Nat) : List Oper → Nat → List Nat → List Nat
  | [], _, acc => acc
  | o :: l, k, acc => reach i l (k + 1) (bif o.after.any (fun e => Region.binds .any e && (Nat.beq e.on i || acc.contains e.on)) then k :: acc else acc)
theorem reach_dep {i : Nat} : ∀ (l : List Oper) (k : Nat) (acc : List Nat), (∀ j, l[j]? = ops[k + j]?) → (∀ j ∈ acc, Dep ops i j) → ∀ j ∈ reach i l k acc, Dep ops i j
  | [], _, _, _, ha, j, hj => ha j hj
  | o :: l, k, acc, hl, ha, j, hj => by
    have h0 : ops[k]? = some o := by simpa using (hl 0).symm
    refine reach_dep l (k + 1) _ (fun j => by have := hl (j + 1); simpa [Nat.add_assoc, Nat.add_comm 1 j] using this) (fun q hq => ?_) j hj
    cases hc : o.after.any (fun e => Region.binds .any e && (Nat.beq e.on i || acc.contains e.on)) with
    | false => rw [hc] at hq; exact ha q hq
    | true =>
      rw [hc] at hq
      rcases List.mem_cons.1 hq with rfl | hq
      · rw [Array.any_eq_true] at hc
        obtain ⟨x, hx, hc⟩ := hc
        simp only [Bool.and_eq_true, Bool.or_eq_true] at hc
        rcases hc.2 with h | h
        · exact .one h0 (Array.getElem_mem hx) hc.1 (Nat.eq_of_beq_eq_true h)
        · exact .more h0 (Array.getElem_mem hx) hc.1 (ha _ (by simpa using h))
      · exact ha q hq

/-- All of kp are in use. -/
def Has (kp σ : Items) : Prop := ∀ it ∈ kp, it ∈ σ
def YieldsI (P : Program) (ops : Array Oper) (kp : Items) (o : Oper) (av : AV) (af : AF) : Prop :=
  (Sat ops o af false ∧ av = undefA) ∨ (Sat ops o af true ∧ ∀ σ, Has kp σ → Reads P o af σ av)
theorem YieldsI.put {kp : Items} {o oj : Oper} {av : AV} (x : AV) (h : ∀ d, oj.dst = some d → d ∉ o.looksAt ops) (hy : YieldsI P ops kp o av af) : YieldsI P ops kp o av (af.put oj.dst x) :=
  hy.imp (fun ⟨h1, h2⟩ => ⟨(Sat.put_iff x h).2 h1, h2⟩) (fun ⟨h1, h2⟩ => ⟨(Sat.put_iff x h).2 h1, fun σ hk => (h2 σ hk).put x h⟩)
theorem YieldsI.unput {kp : Items} {o oj : Oper} {av : AV} (x : AV) (h : ∀ d, oj.dst = some d → d ∉ o.looksAt ops) (hy : YieldsI P ops kp o av (af.put oj.dst x)) : YieldsI P ops kp o av af :=
  hy.imp (fun ⟨h1, h2⟩ => ⟨(Sat.put_iff x h).1 h1, h2⟩) (fun ⟨h1, h2⟩ => ⟨(Sat.put_iff x h).1 h1, fun σ hk => (h2 σ hk).unput x h⟩)
variable {kp : Items}
/-- A new variable, beside whatever is in use. -/
def NewAt (P : Program) (o : Oper) (t : TypeId) (c : List AV) : Prop := o.guard = none ∧ ∀ af σ, Loud P o af σ (fun a s => ∃ b, a = pA b 0 ∧ s = boxI t b c :: σ)
/-- Kinds: 0 quiet, 1 reads, 2 changes, 3 changes all but kp, 4 reads of kp, 5 a new variable. -/
def stepK (P : Program) (ops : Array Oper) (kp : Items) (kd : Nat) (i : Nat) (K : AF → Items → Prop) (af : AF) (σ : Items) : Prop :=
  match kd with
  | 3 => stepA P ops i (fun af' σ' => Has kp σ' ∧ K af' σ') af σ
  | 4 => match ops[i]? with | none => K af σ | some o => ∃ av, YieldsI P ops kp o av af ∧ K (af.put o.dst av) σ
  | 0 => match ops[i]? with | none => K af σ | some o => ∃ av, YieldsA P ops o av af ∧ K (af.put o.dst av) σ
  | 1 => match ops[i]? with | none => K af σ | some o => ∃ av, YieldsS P ops σ o av af ∧ K (af.put o.dst av) σ
  | 5 => ∃ o t c, ops[i]? = some o ∧ NewAt P o t c ∧ ∀ b, K (af.put o.dst (pA b 0)) (boxI t b c :: σ)
  | _ => stepA P ops i K af σ
theorem stepK_3 {i : Nat} {K : AF → Items → Prop} (h : stepA P ops i (fun af' σ' => Has kp σ' ∧ K af' σ') af σ) : stepK P ops kp 3 i K af σ := by unfold stepK; exact h
theorem stepK_mono {kd i : Nat} {K K' : AF → Items → Prop} (h : ∀ af σ, K af σ → K' af σ) (hh : stepK P ops kp kd i K af σ) : stepK P ops kp kd i K' af σ := by
  unfold stepK at *
  split at hh
  · exact stepA_mono (fun af σ ⟨a, b⟩ => ⟨a, h _ _ b⟩) hh
  · split at hh
    · exact h _ _ hh
    · obtain ⟨av, h1, h2⟩ := hh; exact ⟨av, h1, h _ _ h2⟩
  · split at hh
    · exact h _ _ hh
    · obtain ⟨av, h1, h2⟩ := hh; exact ⟨av, h1, h _ _ h2⟩
  · split at hh
    · exact h _ _ hh
    · obtain ⟨av, h1, h2⟩ := hh; exact ⟨av, h1, h _ _ h2⟩
  · obtain ⟨o, t, c, h0, h1, h2⟩ := hh; exact ⟨o, t, c, h0, h1, fun b => h _ _ (h2 b)⟩
  · exact stepA_mono h hh
theorem stepA_of_new {i : Nat} {K : AF → Items → Prop} (hh : ∃ o t c, ops[i]? = some o ∧ NewAt P o t c ∧ ∀ b, K (af.put o.dst (pA b 0)) (boxI t b c :: σ)) : stepA P ops i K af σ := by
  obtain ⟨o, t, c, h0, ⟨hg, hl⟩, h2⟩ := hh
  unfold stepA; simp only [h0]
  exact .inr ⟨.inl ⟨hg, rfl⟩, _, hl af σ, fun a s ⟨b, e1, e2⟩ => by subst e1 e2; exact h2 b⟩
theorem stepA_of_read {i : Nat} {o : Oper} {av : AV} {K : AF → Items → Prop} (h0 : ops[i]? = some o) (h1 : YieldsS P ops σ o av af) (h2 : K (af.put o.dst av) σ) : stepA P ops i K af σ := by
  unfold stepA; simp only [h0]
  rcases h1 with ⟨g1, rfl⟩ | ⟨g1, g2⟩
  · exact .inl ⟨g1, h2⟩
  · exact .inr ⟨g1, _, loud_of_reads g2, fun a s ⟨e1, e2⟩ => by subst e1 e2; exact h2⟩
theorem YieldsI.at {o : Oper} {av : AV} (h : YieldsI P ops kp o av af) (hk : Has kp σ) : YieldsS P ops σ o av af := h.imp id (fun ⟨a, b⟩ => ⟨a, b σ hk⟩)
/-- The items of kp are asked for as long as a read of them may come. -/
def anyK (P : Program) (ops : Array Oper) (kp : Items) (kinds : Nat → Nat) (K : AF → Items → Prop) : Nat → Array Bool → AF → Items → Prop
  | 0, listed, af, σ => Region.ready .any ops listed = [] ∧ K af σ
  | fuel + 1, listed, af, σ => (Region.ready .any ops listed = [] → K af σ) ∧ ∀ i ∈ Region.ready .any ops listed, stepK P ops kp (kinds i) i (anyK P ops kp kinds K fuel (listed.setIfInBounds i true)) af σ ∧ (kinds i = 4 → Has kp σ)
theorem stepA_of_K {kd i : Nat} {K : AF → Items → Prop} (hkp : kd = 4 → Has kp σ) (hh : stepK P ops kp kd i K af σ) : stepA P ops i K af σ := by
  by_cases h4 : kd = 4
  · subst h4
    unfold stepK at hh
    simp only at hh
    split at hh
    · rename_i h0; unfold stepA; simp only [h0]; exact hh
    · rename_i o h0
      obtain ⟨av, h1, h2⟩ := hh
      exact stepA_of_read h0 (h1.at (hkp rfl)) h2
  · unfold stepK at hh
    split at hh
    · exact stepA_mono (fun af σ h => h.2) hh
    · exact absurd rfl h4
    · split at hh
      · rename_i h0; unfold stepA; simp only [h0]; exact hh
      · rename_i o h0
        obtain ⟨av, h1, h2⟩ := hh
        exact h1.step h0 h2
    · split at hh
      · rename_i h0; unfold stepA; simp only [h0]; exact hh
      · rename_i o h0
        obtain ⟨av, h1, h2⟩ := hh
        exact stepA_of_read h0 h1 h2
    · exact stepA_of_new hh
    · exact hh
theorem anyA_of_anyK {kinds : Nat → Nat} {K : AF → Items → Prop} : ∀ (fuel : Nat) (listed : Array Bool) (af : AF) (σ : Items), anyK P ops kp kinds K fuel listed af σ → anyA P ops K fuel listed af σ
  | 0, _, _, _, h => h
  | fuel + 1, listed, af, σ, h => ⟨h.1, fun i hi => stepA_mono (fun af σ hh => anyA_of_anyK fuel _ af σ hh) (stepA_of_K (h.2 i hi).2 (h.2 i hi).1)⟩
def YieldsK (P : Program) (ops : Array Oper) (kp : Items) (kd : Nat) (σ : Items) (o : Oper) (av : AV) (af : AF) : Prop := match kd with | 0 => YieldsA P ops o av af | 4 => YieldsI P ops kp o av af ∧ Has kp σ | _ => YieldsS P ops σ o av af
def okK (ki kj : Nat) : Bool := match ki with
  | 0 => true
  | 4 => Nat.beq kj 0 || Nat.beq kj 1 || Nat.beq kj 3 || Nat.beq kj 4 || Nat.beq kj 5
  | _ => Nat.beq kj 0 || Nat.beq kj 1 || Nat.beq kj 4
theorem stepK_put {ki kj j : Nat} {oi oj : Oper} {av : AV} (hj : ops[j]? = some oj) (hap : oi.apart ops oj = true) (hk : okK ki kj = true) {K : AF → Items → Prop}
    (hy : YieldsK P ops kp ki σ oi av af) (h : stepK P ops kp kj j K (af.put oi.dst av) σ) : stepK P ops kp kj j (fun af' σ' => YieldsK P ops kp ki σ' oi av af' ∧ K (af'.put oi.dst av) σ') af σ := by
  obtain ⟨h1, h2, h3⟩ := Oper.apart_spec hap
  have hput : ∀ u, YieldsK P ops kp ki σ oi av (af.put oj.dst u) := fun u => by
    unfold YieldsK at hy ⊢
    split at hy
    · exact YieldsA.put u h3 hy
    · exact ⟨hy.1.put u h3, hy.2⟩
    · exact YieldsS.put u h3 hy
  unfold stepK at h
  split at h
  · -- a change that keeps kp
    refine stepK_3 ?_
    unfold stepA at h ⊢
    simp only [hj] at h ⊢
    rcases h with ⟨g1, g2, g3⟩ | ⟨g1, post, g2, g3⟩
    · refine .inl ⟨(Sat.put_iff av h1).1 g1, g2, hput undefA, ?_⟩
      rw [← AF.put_comm af av undefA h2]; exact g3
    · refine .inr ⟨(Sat.put_iff av h1).1 g1, post, g2.unput av h1, fun u σ' hp => ⟨(g3 u σ' hp).1, ?_, ?_⟩⟩
      · have hkp := (g3 u σ' hp).1
        unfold YieldsK at hy ⊢
        split at hy
        · exact YieldsA.put u h3 hy
        · exact ⟨hy.1.put u h3, hkp⟩
        · rename_i n0 n4; simp [okK] at hk <;> (split at hk <;> simp_all)
      · rw [← AF.put_comm af av u h2]; exact (g3 u σ' hp).2
  · simp only [stepK, hj] at h ⊢
    obtain ⟨u, g1, g2⟩ := h
    refine ⟨u, g1.unput av h1, hput u, ?_⟩
    rw [← AF.put_comm af av u h2]; exact g2
  · simp only [stepK, hj] at h ⊢
    obtain ⟨u, g1, g2⟩ := h
    refine ⟨u, ?_, hput u, ?_⟩
    · exact g1.imp (fun ⟨a, b⟩ => ⟨(Sat.put_iff av h1).1 a, b⟩) (fun ⟨a, b⟩ => ⟨(Sat.put_iff av h1).1 a, fun M w ev hM hx => b M w ev hM (fun y hy => by rw [ev_put af av h1 y hy]; exact hx y hy)⟩)
    · rw [← AF.put_comm af av u h2]; exact g2
  · simp only [stepK, hj] at h ⊢
    obtain ⟨u, g1, g2⟩ := h
    refine ⟨u, g1.unput av h1, hput u, ?_⟩
    rw [← AF.put_comm af av u h2]; exact g2
  · obtain ⟨o', t, c, h0, hnew, g2⟩ := h
    rw [hj] at h0; cases h0
    refine ⟨oj, t, c, hj, hnew, fun b => ⟨?_, ?_⟩⟩
    · unfold YieldsK at hy ⊢
      split at hy
      · exact YieldsA.put _ h3 hy
      · exact ⟨hy.1.put _ h3, fun y hm => List.mem_cons_of_mem _ (hy.2 y hm)⟩
      · rename_i n0 n4; simp [okK] at hk <;> (split at hk <;> simp_all)
    · rw [← AF.put_comm af av (pA b 0) h2]; exact g2 b
  · rename_i n0 n1 n2 n3 n5
    have hki : ki = 0 := by
      unfold okK at hk
      split at hk
      · rfl
      · simp only [Bool.or_eq_true] at hk
        rcases hk with (((h | h) | h) | h) | h
        · exact absurd (Nat.eq_of_beq_eq_true h) n2
        · exact absurd (Nat.eq_of_beq_eq_true h) n3
        · exact absurd (Nat.eq_of_beq_eq_true h) n0
        · exact absurd (Nat.eq_of_beq_eq_true h) n1
        · exact absurd (Nat.eq_of_beq_eq_true h) n5
      · simp only [Bool.or_eq_true] at hk
        rcases hk with (h | h) | h
        · exact absurd (Nat.eq_of_beq_eq_true h) n2
        · exact absurd (Nat.eq_of_beq_eq_true h) n3
        · exact absurd (Nat.eq_of_beq_eq_true h) n1
    subst hki
    have e : ∀ K af σ, stepK P ops kp kj j K af σ = stepA P ops j K af σ := fun K af σ => by
      unfold stepK
      split <;> first | rfl | exact absurd rfl ‹_›
    rw [e]
    exact stepA_put hj hap hy h
theorem anyK_first {kinds : Nat → Nat} {K : AF → Items → Prop} {i : Nat} {oi : Oper} {av : AV} (hi : ops[i]? = some oi) (hki : kinds i = 0 ∨ kinds i = 1 ∨ kinds i = 4) :
    ∀ (fuel : Nat) (listed : Array Bool) (af : AF) (σ : Items), Down ops listed →
      (∀ j oj, ops[j]? = some oj → j ≠ i → listed.getD j true = false → ¬ Dep ops i j → oi.apart ops oj = true ∧ okK (kinds i) (kinds j) = true) →
      i ∈ Region.ready .any ops listed → YieldsK P ops kp (kinds i) σ oi av af →
      anyK P ops kp kinds K fuel (listed.setIfInBounds i true) (af.put oi.dst av) σ → anyK P ops kp kinds K (fuel + 1) listed af σ := by
  intro fuel
  have one : ∀ {K' : AF → Items → Prop} {af : AF} {σ : Items}, YieldsK P ops kp (kinds i) σ oi av af → K' (af.put oi.dst av) σ → stepK P ops kp (kinds i) i K' af σ ∧ (kinds i = 4 → Has kp σ) := fun hy hk => by
    rcases hki with h | h | h <;> rw [h] at hy ⊢
    · exact ⟨by simp only [stepK, hi]; exact ⟨av, hy, hk⟩, fun h => by cases h⟩
    · exact ⟨by simp only [stepK, hi]; exact ⟨av, hy, hk⟩, fun h => by cases h⟩
    · exact ⟨by simp only [stepK, hi]; exact ⟨av, hy.1, hk⟩, fun _ => hy.2⟩
  induction fuel with
  | zero =>
    intro listed af σ _ _ hr hy H
    refine ⟨fun h => (by rw [h] at hr; cases hr), fun j hj => ?_⟩
    by_cases hji : j = i
    · subst hji; exact one hy H
    · have := ready_mono hj hji
      rw [H.1] at this
      cases this
  | succ fuel ih =>
    intro listed af σ hD hfree hr hy H
    refine ⟨fun h => (by rw [h] at hr; cases hr), fun j hj => ?_⟩
    by_cases hji : j = i
    · subst hji; exact one hy H
    · have h1 := H.2 j (ready_mono hj hji)
      obtain ⟨hjun, oj, hoj, hall⟩ := mem_ready.1 hj
      have hiun : listed.getD i false = false := by
        have := (mem_ready.1 hr).1
        cases hl : listed.getD i false with
        | false => rfl
        | true =>
          rcases Nat.lt_or_ge i listed.size with h' | h'
          · simp [h'] at this hl; rw [this] at hl; cases hl
          · simp [Array.getElem?_eq_none h'] at hl
      have hnd : ¬ Dep ops i j := fun hd => (hd.unlisted hD hiun).2 hj
      obtain ⟨hap, hkk⟩ := hfree j oj hoj hji hjun hnd
      have h2 := stepK_put hoj hap hkk hy h1.1
      have hfree' : ∀ k ok, ops[k]? = some ok → k ≠ i → (listed.setIfInBounds j true).getD k true = false → ¬ Dep ops i k → oi.apart ops ok = true ∧ okK (kinds i) (kinds k) = true := fun k ok hk hki hun hno => by
        refine hfree k ok hk hki ?_ hno
        by_cases hjk : j = k
        · subst hjk; exact hjun
        · rw [getD_set_ne true hjk] at hun; exact hun
      refine ⟨stepK_mono (fun af' σ' h3 => ih (listed.setIfInBounds j true) af' σ' (hD.step hj) hfree' (ready_mono hr (Ne.symm hji)) h3.1 ?_) h2, h1.2⟩
      rw [Array.setIfInBounds_comm _ _ hji]
      exact h3.2

/-! ### The walk in a given order: kinds and numbers -/
def opI (P : Program) (kp : Items) (o : Oper) (af : AF) (K : AF → Prop) : Prop := ∃ av, (∀ σ, Has kp σ → Reads P o af σ av) ∧ K (af.put o.dst av)
def opK (P : Program) (kp : Items) (kd : Nat) (o : Oper) (af : AF) (σ : Items) (K : AF → Items → Prop) : Prop := match kd with
  | 3 => opB P o af σ (fun af' σ' => Has kp σ' ∧ K af' σ')
  | 4 => Has kp σ ∧ opI P kp o af (fun af' => K af' σ)
  | 0 => opA P o af (fun af' => K af' σ)
  | 1 => opR P o af σ (fun af' => K af' σ)
  | _ => opB P o af σ K
def wpP (P : Program) (ops : Array Oper) (kp : Items) (K : AF → Items → Prop) : List (Nat × Nat) → AF → Items → Prop
  | [], af, σ => K af σ
  | (kd, i) :: rest, af, σ => ∃ o, ops[i]? = some o ∧ ((Sat ops o af false ∧ (kd = 3 ∨ kd = 4 → Has kp σ) ∧ wpP P ops kp K rest (af.put o.dst undefA) σ) ∨ (Sat ops o af true ∧ opK P kp kd o af σ (wpP P ops kp K rest)))
def kindOf (plan : List (Nat × Nat)) (i : Nat) : Nat := ((plan.find? (fun p => Nat.beq p.2 i)).map (·.1)).getD 2
def freeK (ops : Array Oper) (plan : List (Nat × Nat)) (listed : Array Bool) (i : Nat) : Bool :=
  match ops[i]? with
  | none => false
  | some oi =>
    let dep := reach i ops.toList 0 []
    (List.range ops.size).all fun j => Nat.beq j i || listed.getD j true || dep.contains j || (match ops[j]? with | none => false | some oj => oi.apart ops oj && okK (kindOf plan i) (kindOf plan j))
def lexK (ops : Array Oper) (plan : List (Nat × Nat)) : List (Nat × Nat) → Array Bool → Bool
  | [], listed => (Region.ready .any ops listed).isEmpty
  | (kd, k) :: rest, listed => Nat.beq (kindOf plan k) kd && !(Nat.beq kd 5) && (bif Nat.beq kd 0 || Nat.beq kd 1 || Nat.beq kd 4 then (Region.ready .any ops listed).contains k && freeK ops plan listed k else (Region.ready .any ops listed) == [k]) && lexK ops plan rest (listed.setIfInBounds k true)
theorem freeK_spec {plan : List (Nat × Nat)} {listed : Array Bool} {i : Nat} {oi : Oper} (hi : ops[i]? = some oi) (h : freeK ops plan listed i = true) (j : Nat) (oj : Oper) (hj : ops[j]? = some oj) (hne : j ≠ i) (hun : listed.getD j true = false) (hnd : ¬ Dep ops i j) :
    oi.apart ops oj = true ∧ okK (kindOf plan i) (kindOf plan j) = true := by
  unfold freeK at h
  simp only [hi] at h
  have hlt : j < ops.size := (Array.getElem?_eq_some_iff.1 hj).1
  have h1 := List.all_eq_true.1 h j (List.mem_range.2 hlt)
  simp only [Bool.or_eq_true, hun, hj, Bool.and_eq_true] at h1
  rcases h1 with ((h1 | h1) | h1) | h1
  · exact absurd (Nat.eq_of_beq_eq_true h1) hne
  · cases h1
  · exact absurd (reach_dep ops.toList 0 [] (fun q => by simp) (fun q hq => by simp at hq) j (by simpa using h1)) hnd
  · exact h1
theorem anyK_of_lex {plan : List (Nat × Nat)} {K : AF → Items → Prop} : ∀ (l : List (Nat × Nat)) (listed : Array Bool) (af : AF) (σ : Items), Down ops listed →
    lexK ops plan l listed = true → wpP P ops kp K l af σ → anyK P ops kp (kindOf plan) K l.length listed af σ
  | [], _, _, _, _, hB, h => ⟨by simpa [lexK] using hB, h⟩
  | (kd, k) :: l, listed, af, σ, hD, hB, h => by
    obtain ⟨o, h0, h⟩ := h
    simp only [lexK, Bool.and_eq_true] at hB
    obtain ⟨⟨⟨hB0, hB5⟩, hB1⟩, hB2⟩ := hB
    have hkd : kindOf plan k = kd := Nat.eq_of_beq_eq_true hB0
    have h5 : kd ≠ 5 := fun e => by subst e; simp at hB5
    by_cases hq : kd = 0 ∨ kd = 1 ∨ kd = 4
    · have hqb : (Nat.beq kd 0 || Nat.beq kd 1 || Nat.beq kd 4) = true := by rcases hq with h | h | h <;> rw [h] <;> rfl
      rw [hqb] at hB1
      simp only [cond_true, Bool.and_eq_true] at hB1
      obtain ⟨hr, hf⟩ := hB1
      have hr' : k ∈ Region.ready .any ops listed := by simpa using hr
      have hy : ∃ av, YieldsK P ops kp (kindOf plan k) σ o av af ∧ wpP P ops kp K l (af.put o.dst av) σ := by
        rw [hkd]
        rcases h with ⟨h1, hkp, h2⟩ | ⟨h1, h2⟩
        · refine ⟨undefA, ?_, h2⟩
          unfold YieldsK
          split
          · exact .inl ⟨h1, rfl⟩
          · exact ⟨.inl ⟨h1, rfl⟩, hkp (.inr rfl)⟩
          · exact .inl ⟨h1, rfl⟩
        · rcases hq with rfl | rfl | rfl
          · obtain ⟨av, g1, g2⟩ := h2
            exact ⟨av, .inr ⟨h1, g1⟩, g2⟩
          · obtain ⟨av, g1, g2⟩ := h2
            exact ⟨av, .inr ⟨h1, g1⟩, g2⟩
          · obtain ⟨hkp, av, g1, g2⟩ := h2
            exact ⟨av, ⟨.inr ⟨h1, g1⟩, hkp⟩, g2⟩
      obtain ⟨av, hy, hK⟩ := hy
      exact anyK_first (kinds := kindOf plan) h0 (by rw [hkd]; exact hq) l.length listed af σ hD (freeK_spec h0 hf) hr' hy (anyK_of_lex l _ _ σ (hD.step hr') hB2 hK)
    · have hqb : (Nat.beq kd 0 || Nat.beq kd 1 || Nat.beq kd 4) = false := by
        cases h1 : Nat.beq kd 0 with
        | true => exact absurd (.inl (Nat.eq_of_beq_eq_true h1)) hq
        | false => cases h2 : Nat.beq kd 1 with
          | true => exact absurd (.inr (.inl (Nat.eq_of_beq_eq_true h2))) hq
          | false => cases h3 : Nat.beq kd 4 with
            | true => exact absurd (.inr (.inr (Nat.eq_of_beq_eq_true h3))) hq
            | false => rfl
      rw [hqb] at hB1
      simp only [cond_false, beq_iff_eq] at hB1
      have hr' : k ∈ Region.ready .any ops listed := by rw [hB1]; simp
      refine ⟨fun h0 => (by rw [h0] at hB1; cases hB1), fun j hj => ?_⟩
      rw [hB1] at hj
      obtain rfl : j = k := by simpa using hj
      rw [hkd]
      refine ⟨?_, fun h4 => absurd (.inr (.inr h4)) hq⟩
      by_cases h3 : kd = 3
      · subst h3
        refine stepK_3 ?_
        unfold stepA; simp only [h0]
        rcases h with ⟨h1, hkp, h2⟩ | ⟨h1, h2⟩
        · exact .inl ⟨h1, hkp (.inl rfl), anyK_of_lex l _ _ σ (hD.step hr') hB2 h2⟩
        · obtain ⟨post, p1, p2⟩ := h2
          exact .inr ⟨h1, post, p1, fun av σ' hp => ⟨(p2 av σ' hp).1, anyK_of_lex l _ _ σ' (hD.step hr') hB2 (p2 av σ' hp).2⟩⟩
      have e : ∀ K af σ, stepK P ops kp kd j K af σ = stepA P ops j K af σ := fun K af σ => by
        unfold stepK
        split
        · exact absurd rfl h3
        · exact absurd (.inr (.inr rfl)) hq
        · exact absurd (.inl rfl) hq
        · exact absurd (.inr (.inl rfl)) hq
        · exact absurd rfl h5
        · rfl
      rw [e]
      unfold stepA; simp only [h0]
      rcases h with ⟨h1, _, h2⟩ | ⟨h1, h2⟩
      · exact .inl ⟨h1, anyK_of_lex l _ _ σ (hD.step hr') hB2 h2⟩
      · refine .inr ⟨h1, ?_⟩
        have h3 : opB P o af σ (wpP P ops kp K l) := by
          unfold opK at h2
          split at h2
          · exact absurd rfl h3
          · exact absurd (.inr (.inr rfl)) hq
          · exact absurd (.inl rfl) hq
          · exact absurd (.inr (.inl rfl)) hq
          · exact h2
        obtain ⟨post, p1, p2⟩ := h3
        exact ⟨post, p1, fun av σ' hp => anyK_of_lex l _ _ σ' (hD.step hr') hB2 (p2 av σ' hp)⟩
def planKB (plan : List (Nat × Nat)) (l : List Oper) (n : Nat) : Bool := dstB l.toArray n && Nat.beq plan.length l.length && lexK l.toArray plan plan (Array.replicate l.length false)
variable {ks : List KFr}
theorem k_plan (kp : Items) (plan : List (Nat × Nat)) {id : Nat} {l : List Oper} (hm : P.follows .mixedOrders = true) (hB : planKB plan l n = true)
    (h : wpP P l.toArray kp (den P E n ks .normal) plan af σ) : awp P E n (.region id l.toArray true) (den P E n ks) af σ := by
  simp only [planKB, Bool.and_eq_true] at hB
  intro a w hh
  refine wp_region_any hm ?_
  have hD : Down l.toArray (Array.replicate l.length false) := fun j o _ hj => by
    rw [Array.getD_eq_getD_getElem?, Array.getElem?_replicate] at hj
    split at hj <;> cases hj
  have hl : plan.length = l.length := Nat.eq_of_beq_eq_true hB.1.2
  have h1 := anyA_of_anyK (kp := kp) _ _ _ _ (anyK_of_lex (plan := plan) plan (Array.replicate l.length false) af σ hD hB.2 h)
  rw [hl] at h1
  simpa using wpAny_of_anyA hB.1.1 _ _ af σ a _ h1 hh.drew

variable {K : AF → Items → Prop} {rest : List (Nat × Nat)} {dst : Option Tmp} {op : Op} {ty0 : TypeId} {pos0 : String} {after0 : Array Edge} {i kd : Nat}
theorem opK_q {o : Oper} (hkd : kd = 3 ∨ kd = 4 → Has kp σ) (h : opA P o af (fun af' => K af' σ)) : opK P kp kd o af σ K := by
  obtain ⟨av, h1, h2⟩ := h
  unfold opK
  split
  · exact ⟨_, loud_of_quiet σ h1, fun a s ⟨e1, e2⟩ => by subst e1 e2; exact ⟨hkd (.inl rfl), h2⟩⟩
  · exact ⟨hkd (.inr rfl), av, fun σ _ => h1.reads σ, h2⟩
  · exact ⟨av, h1, h2⟩
  · exact ⟨av, h1.reads σ, h2⟩
  · exact ⟨_, loud_of_quiet σ h1, fun a s ⟨e1, e2⟩ => by subst e1 e2; exact h2⟩
theorem P_nil (h : K af σ) : wpP P ops kp K [] af σ := h
theorem P_q (hkd : kd = 3 ∨ kd = 4 → Has kp σ) (hi : ops[i]? = some ⟨dst, op, ty0, pos0, after0, none⟩) (h : opA P ⟨dst, op, ty0, pos0, after0, none⟩ af (fun af' => wpP P ops kp K rest af' σ)) : wpP P ops kp K ((kd, i) :: rest) af σ := ⟨_, hi, .inr ⟨.inl ⟨rfl, rfl⟩, opK_q (K := wpP P ops kp K rest) hkd h⟩⟩
theorem P_r (hi : ops[i]? = some ⟨dst, op, ty0, pos0, after0, none⟩) (h : opR P ⟨dst, op, ty0, pos0, after0, none⟩ af σ (fun af' => wpP P ops kp K rest af' σ)) : wpP P ops kp K ((1, i) :: rest) af σ := ⟨_, hi, .inr ⟨.inl ⟨rfl, rfl⟩, h⟩⟩
theorem P_l (hi : ops[i]? = some ⟨dst, op, ty0, pos0, after0, none⟩) (h : opB P ⟨dst, op, ty0, pos0, after0, none⟩ af σ (wpP P ops kp K rest)) : wpP P ops kp K ((2, i) :: rest) af σ := ⟨_, hi, .inr ⟨.inl ⟨rfl, rfl⟩, h⟩⟩
variable {j : Nat} {want : Bool} {dg : Tmp} {c : Bool} {p : Prop} [Decidable p]
theorem Py_q (hkd : kd = 3 ∨ kd = 4 → Has kp σ) (hi : ops[i]? = some ⟨dst, op, ty0, pos0, after0, some (j, want)⟩) (hj : (ops[j]?).bind (·.dst) = some dg) (hv : af dg = .exact (.bool want)) (h : opA P ⟨dst, op, ty0, pos0, after0, some (j, want)⟩ af (fun af' => wpP P ops kp K rest af' σ)) : wpP P ops kp K ((kd, i) :: rest) af σ :=
  ⟨_, hi, .inr ⟨by simpa using Sat.mk (want := want) hj hv, opK_q (K := wpP P ops kp K rest) hkd h⟩⟩
theorem Py_r (hi : ops[i]? = some ⟨dst, op, ty0, pos0, after0, some (j, want)⟩) (hj : (ops[j]?).bind (·.dst) = some dg) (hv : af dg = .exact (.bool want)) (h : opR P ⟨dst, op, ty0, pos0, after0, some (j, want)⟩ af σ (fun af' => wpP P ops kp K rest af' σ)) : wpP P ops kp K ((1, i) :: rest) af σ :=
  ⟨_, hi, .inr ⟨by simpa using Sat.mk (want := want) hj hv, h⟩⟩
theorem P_n (hkd : kd = 3 ∨ kd = 4 → Has kp σ) (hi : ops[i]? = some ⟨dst, op, ty0, pos0, after0, some (j, want)⟩) (hj : (ops[j]?).bind (·.dst) = some dg) (hv : af dg = .exact (.bool (!want))) (h : wpP P ops kp K rest (af.put dst undefA) σ) : wpP P ops kp K ((kd, i) :: rest) af σ :=
  ⟨_, hi, .inl ⟨by simpa using Sat.mk (want := want) hj hv, hkd, h⟩⟩
variable {pl : List (Nat × Nat)}
theorem P_split (dg : Tmp) (hv : af dg = .exact (.bool (decide p))) (h1 : p → wpP P ops kp K pl (af.put (some dg) (.exact (.bool true))) σ) (h2 : ¬ p → wpP P ops kp K pl (af.put (some dg) (.exact (.bool false))) σ) : wpP P ops kp K pl af σ := by
  by_cases hp : p
  · have := h1 hp; rwa [put_b hv (by simp [hp])] at this
  · have := h2 hp; rwa [put_b hv (by simp [hp])] at this
theorem Has.cons {it : Item} {kp : Items} (h : it ∈ σ) (h' : Has kp σ) : Has (it :: kp) σ := fun x hx => by
  rcases List.mem_cons.1 hx with rfl | hx
  · exact h
  · exact h' x hx
theorem no34_0 : (0 : Nat) = 3 ∨ (0 : Nat) = 4 → Has kp σ := fun h => by rcases h with h | h <;> cases h
theorem no34_1 : (1 : Nat) = 3 ∨ (1 : Nat) = 4 → Has kp σ := fun h => by rcases h with h | h <;> cases h
end
end Go.Proofs.YtdppkpiagdaigaaGreatDoor
/- Function values; slices against nil; tests of which one answer is certain. -/
namespace Go.Proofs.YtdppkpiagdaigaaGreatDoor
open Go.RowKit

section
variable {P : Program} {E : Env} {n : Nat} {af : AF} {σ : Items} {K : AF → Prop} {d : Option Tmp} {ty : TypeId} {pos : String} {after : Array Edge} {g : Option (Nat × Bool)} {ks : List KFr}

/-- A test: true only where p holds. -/
def AV.nilq (p : Prop) : AV := ⟨fun _ _ v => ∃ b : Bool, v = .bool b ∧ (b = true → p), fun _ _ h => h⟩
/-- A test: false only where p holds. -/
def AV.nilqn (p : Prop) : AV := ⟨fun _ _ v => ∃ b : Bool, v = .bool b ∧ (b = false → p), fun _ _ h => h⟩

theorem awp_condu {c : Operand} {x y : Code} {QA : Exit → AF → Items → Prop} {p : Prop} (hc : af.ev c = .nilq p) (ht : p → awp P E n x QA af σ) (hf : awp P E n y QA af σ) : awp P E n (.cond c x y) QA af σ := by
  intro a w hh
  have h1 := hh.ev c
  rw [hc] at h1
  obtain ⟨b, e1, hb⟩ := h1
  exact wp_cond_split e1 (fun e => ht (hb e) a w hh) (fun _ => hf a w hh)
theorem k_cond_u {c : Operand} {x y : Code} {p : Prop} (hc : af.ev c = .nilq p) (ht : p → awp P E n x (den P E n ks) af σ) (hf : awp P E n y (den P E n ks) af σ) : awp P E n (.cond c x y) (den P E n ks) af σ := awp_condu hc ht hf
variable {α : Type} {m : Nat} {enc : α → List AV} {xs : List α} {v : Value}
theorem equal_nil {t : TypeId} {e : TypeId} (ht : P.underlying t = some (.slice e)) (A : Option Addr) (l c : Nat) (w : World) : (Op.equal t (.slice A l c) (.slice none 0 0)).run P w = .ok A.isNone w := by
  have key : ∀ D : Nat, (Op.equalIn (D + 1) t (.slice A l c) (.slice none 0 0)).run P w = .ok A.isNone w := by
    intro D
    cases A <;> simp [Op.equalIn, run_underlying ht]
  exact key 9999
theorem slice_under {t : TypeId} (h : isSliceB P t = true) : ∃ e, P.underlying t = some (.slice e) := by
  unfold isSliceB at h
  split at h
  · rename_i e he; exact ⟨_, he⟩
  · cases h
theorem op_eqnil_row {t t' : TypeId} {x : Operand} (hB : isSliceB P t = true) (hx : af.ev x = .row m enc xs) (hk : K (af.put d (.nilq (xs = [])))) : opA P ⟨d, .binOp .eql t x (.const (.slice none 0 0)) t', ty, pos, after, g⟩ af K := by
  refine ⟨_, fun M w ev _ h => ?_, hk⟩
  obtain ⟨e, ht⟩ := slice_under hB
  obtain ⟨A, c, e1, _, _, h4⟩ := opnd_p h (x := x) (by simp [Op.operands]) hx
  have e2 := opnd h (x := .const (.slice none 0 0)) (by simp [Op.operands]) rfl
  simp [execOp, eqGuard, e1, e2, binOp, equal_nil ht, go_sem, UponQ]
  refine ⟨Keeps.refl _ _, A.isNone, rfl, fun hA => ?_⟩
  cases xs with
  | nil => rfl
  | cons y ys =>
    obtain ⟨b, off, rfl, _⟩ := h4 (by simp)
    cases hA
/-! ### Function values -/
/-- A function value: called with what args i says, it touches nothing in use and gives back what f i says. -/
def AV.fn (P : Program) {ι ρ : Type} (args : ι → List AV) (f : ι → Option ρ) (res : ρ → AV) : AV :=
  ⟨fun M w v => ∃ (k : FuncId) (fn : Func) (caps : List Value) (avs : List AV), v = .func (.func k) #[] caps.toArray ∧ P.funcs[k]? = some fn ∧ (fn.body.isNone || fn.name == "runtime.NumGoroutine") = false ∧ Fit M w avs caps ∧ ∀ i r, f i = some r → Pure P k (args i ++ avs) (res r),
   fun hk hm ⟨k, fn, caps, avs, h1, h2, h3, h4, h5⟩ => ⟨k, fn, caps, avs, h1, h2, h3, h4.keep hk hm, h5⟩⟩
theorem Fit.append {M : BSet} {w : World} {xs ys : List AV} {vs us : List Value} (h : Fit M w xs vs) (h' : Fit M w ys us) : Fit M w (xs ++ ys) (vs ++ us) := Fit.app h h'
theorem fit_opnds {xs : List Operand} {args : List AV} {M : BSet} {w : World} {ev : Operand → Value} (h : ∀ x ∈ xs, (af.ev x).p M w (ev x)) (hx : LEs (xs.map af.ev) args) : Fit M w args (xs.map ev) := by
  refine LE_fit hx ?_
  clear hx
  induction xs with
  | nil => trivial
  | cons x xs ih => exact ⟨h x (by simp), ih (fun y hy => h y (by simp [hy]))⟩
theorem op_callfn {ι ρ : Type} {args : ι → List AV} {f : ι → Option ρ} {res : ρ → AV} (i : ι) {r : ρ} {z : Operand} {xs : List Operand} {ats : Array TypeId} (hz : af.ev z = .fn P args f res) (hr : f i = some r)
    (hx : LEs (xs.map af.ev) (args i)) (hk : K (af.put d (res r))) : opA P ⟨d, .call { callee := .value z, args := xs.toArray, argTypes := ats }, ty, pos, after, g⟩ af K := by
  refine ⟨res r, fun M w ev hM h => ?_, hk⟩
  obtain ⟨k, fn, caps, avs, e1, e2, e3, e4, e5⟩ := opnd_p h (x := z) (by simp [Op.operands, Call.operands]) hz
  have hfit : Fit M w (args i) (xs.map ev) := fit_opnds (fun x hm => h x (by simp [Op.operands, Call.operands, hm])) hx
  simp only [Bool.or_eq_false_iff] at e3
  have hrun : (execOp ev ⟨d, .call { callee := .value z, args := xs.toArray, argTypes := ats }, ty, pos, after, g⟩).run P w = .ok (.enter k (xs.map ev ++ caps).toArray) w := by
    simp [execOp, resolve, e1, Deferred.ofValue, invoke, run_callFunc e2 e3.1 e3.2, go_sem]
  rw [hrun]
  exact e5 i r hr M w _ hM (hfit.app e4)
/-- A function of the program, as a value. -/
theorem fn_le {ι ρ : Type} {args : ι → List AV} {f : ι → Option ρ} {res : ρ → AV} {k : FuncId} {fn : Func} (h2 : P.funcs[k]? = some fn) (h3 : (fn.body.isNone || fn.name == "runtime.NumGoroutine") = false) (h : ∀ i r, f i = some r → Pure P k (args i) (res r)) :
    AV.le (.exact (.func (.func k) #[] #[])) (.fn P args f res) := fun M w v hv => ⟨k, fn, [], [], hv, h2, h3, trivial, fun i r hr => by rw [List.append_nil]; exact h i r hr⟩
end
end Go.Proofs.YtdppkpiagdaigaaGreatDoor
/- clear of a part of a row in use. -/
namespace Go.Proofs.YtdppkpiagdaigaaGreatDoor
open Go.RowKit

theorem zeroCells_succ (zc : Array Value) (m : Nat) : (Builtin.zeroCells zc (m + 1)).toList = zc.toList ++ (Builtin.zeroCells zc m).toList := by
  simp only [Builtin.zeroCells, Array.toList_map, Array.toList_range]
  rw [show (m + 1) * zc.size = zc.size + m * zc.size by rw [Nat.add_mul]; omega, List.range_add, List.map_append, List.map_map]
  congr 1
  · apply List.ext_getElem
    · simp
    · intro i h1 h2
      simp at h1
      simp [Nat.mod_eq_of_lt h1, h1]
  · apply List.map_congr_left
    intro i _
    simp [Nat.add_mod_left]

theorem Fit.nil0 {M : BSet} {w : World} : Fit M w [] [] := trivial
theorem Fit.ex {M : BSet} {w : World} {v : Value} {c : List AV} {vs : List Value} (h : Fit M w c vs) : Fit M w (.exact v :: c) (v :: vs) := ⟨rfl, h⟩
section
variable {P : Program} {af : AF} {ρ : Items} {d : Option Tmp} {ty t : TypeId} {pos : String} {after : Array Edge} {g : Option (Nat × Bool)} {α : Type} {n : Nat} {enc : α → List AV} {xs : List α} {v : Value} {K : AF → Items → Prop}

theorem fit_zeros {M : BSet} {w : World} {zr : α} {zc : Array Value} (hz : Fit M w (enc zr) zc.toList) : ∀ m : Nat, Fit M w ((List.replicate m zr).flatMap enc) (Builtin.zeroCells zc m).toList
  | 0 => by simp [Builtin.zeroCells, Fit]
  | m + 1 => by
    rw [zeroCells_succ, List.replicate_succ, List.flatMap_cons]
    exact hz.app (fit_zeros hz m)
theorem flat_parts (he : ∀ x, (enc x).length = n) : ∀ (ys : List α) (k : Nat), (ys.flatMap enc).take (k * n) = (ys.take k).flatMap enc ∧ (ys.flatMap enc).drop (k * n) = (ys.drop k).flatMap enc := by
  intro ys
  induction ys with
  | nil => simp
  | cons y ys ih =>
    intro k
    cases k with
    | zero => simp
    | succ k =>
      have hl : (enc y).length = n := he y
      rw [List.flatMap_cons, Nat.add_mul, Nat.one_mul, Nat.add_comm (k * n) n]
      constructor
      · rw [← hl, List.take_length_add_append, hl, (ih k).1]; rfl
      · rw [← hl, List.drop_length_add_append, hl, (ih k).2]; rfl

theorem op_clear {lo m : Nat} {zr : α} {z : Value} {x : Operand} (hE : elB P t n = true) (he : ∀ x, (enc x).length = n) (ho : ∀ x, OneC (enc x)) (hx : af.ev x = .vsub v n lo m) (hl : lo + m ≤ xs.length) (hz : ∀ w, (zeroValue (elemOfT P t)).run P w = .ok z w) (hzf : ∀ M w, Fit M w (enc zr) z.cells.toList)
    (hk : K (af.put d (.exact (.tuple #[]))) (vecT P t n enc v (xs.take lo ++ List.replicate m zr ++ xs.drop (lo + m)) :: ρ)) : opB P ⟨d, .call { callee := .builtin .clear, args := #[x], argTypes := #[t] }, ty, pos, after, g⟩ af (vecT P t n enc v xs :: ρ) K := by
  refine ⟨fun a s => a = .exact (.tuple #[]) ∧ s = vecT P t n enc v (xs.take lo ++ List.replicate m zr ++ xs.drop (lo + m)) :: ρ, fun F w ev hg h => ?_, fun av s ⟨e1, e2⟩ => by subst e1 e2; exact hk⟩
  obtain ⟨ht, hn0, I, zz, hi, hz', hi1, hi2, hi3⟩ := elB_spec hE
  obtain ⟨A, l, c, hv, hc1, hc2, e1⟩ := opnd_p h (x := x) (by simp [Op.operands, Call.operands]) hx
  have hlen : (xs.take lo ++ List.replicate m zr ++ xs.drop (lo + m)).length = xs.length := by simp; omega
  by_cases hm : m = 0
  · subst hm
    have hcl : (Builtin.clear_ #[t] ty #[ev x]).run P w = .ok (.tuple #[]) w := by
      rw [e1]
      split <;> (try cases A) <;> simp [Builtin.clear_, run_underlying ht]
    have hrun : (execOp ev ⟨d, .call { callee := .builtin .clear, args := #[x], argTypes := #[t] }, ty, pos, after, g⟩).run P w = .ok (.value (.tuple #[])) w := by
      unfold execOp
      simp only [resolve, invoke, builtin, Sem.run_bind, Sem.run_pure, Result.andThen_ok, List.map_toArray, List.map_cons, List.map_nil, hcl]
    rw [hrun]
    have hxs : xs.take lo ++ List.replicate 0 zr ++ xs.drop (lo + 0) = xs := by simp
    refine ⟨_, _, ⟨rfl, rfl⟩, by rw [hxs]; exact hg, (Keeps.refl noB w).mono (fun _ _ h => h.elim), by rw [hxs]; exact fun k h _ => h, rfl⟩
  · obtain ⟨b, c', cur, vs, hv', hb, hnc, hcm, hcs, htk, hfit⟩ := vec_cells (hg.items _ List.mem_cons_self) (by rintro rfl; simp at hl; omega)
    rw [hv'] at hv
    injection hv with q1 q2 q3
    subst q1 q2 q3
    rw [if_neg (by omega)] at e1
    have hadd : Option.map (fun x => x.add (lo * n)) (some (⟨b, 0, none⟩ : Addr)) = some ⟨b, lo * n, none⟩ := by simp [addr_add']
    rw [hadd] at e1
    have hbm : (lo + m) * n ≤ xs.length * n := Nat.mul_le_mul_right _ hl
    have hcn : xs.length * n ≤ cur.size := by rw [hcs]; exact Nat.mul_le_mul_right _ hnc
    have haddm : (lo + m) * n = lo * n + m * n := Nat.add_mul _ _ _
    have hfz := fun M w => fit_zeros (M := M) (w := w) (hzf M w) m
    have hul : (Builtin.zeroCells z.cells m).toList.length = m * n := by rw [← (hfz noB w).length, flat_len (fun x _ => he x), List.length_replicate]
    have h1c : ∀ u ∈ (Builtin.zeroCells z.cells m).toList, u.oneCell' = true := (OneC.flatT (xs := List.replicate m zr) ho).fit (hfz noB w)
    have hst := run_storeCells_at (P := P) b (lo * n) (elemOfT P t) (Builtin.zeroCells z.cells m).toList 0 cur w hb (by omega) h1c
    simp only [Nat.add_zero] at hst
    obtain ⟨m', rfl⟩ : ∃ k, m = k + 1 := ⟨m - 1, by omega⟩
    have hcl : (Builtin.clear_ #[t] ty #[ev x]).run P w = .ok (.tuple #[]) (w.setRow b (splc cur.toList (lo * n) (Builtin.zeroCells z.cells (m' + 1)).toList).toArray) := by
      rw [e1]
      simp [Builtin.clear_, run_underlying ht, hz, hst, splc]
    have hrun : (execOp ev ⟨d, .call { callee := .builtin .clear, args := #[x], argTypes := #[t] }, ty, pos, after, g⟩).run P w = .ok (.value (.tuple #[])) (w.setRow b (splc cur.toList (lo * n) (Builtin.zeroCells z.cells (m' + 1)).toList).toArray) := by
      unfold execOp
      simp only [resolve, invoke, builtin, Sem.run_bind, Sem.run_pure, Result.andThen_ok, List.map_toArray, List.map_cons, List.map_nil, hcl]
    rw [hrun]
    generalize hus : (Builtin.zeroCells z.cells (m' + 1)).toList = us at *
    generalize hmm : m' + 1 = m at *
    have hblt := (Array.getElem?_eq_some_iff.1 hb).1
    have hob : v.ownBlock = some b := by rw [hv']; rfl
    have hk : Keeps (fun k => k ∈ (vecT P t n enc v xs).own) w (w.setRow b (splc cur.toList (lo * n) us).toArray) := ⟨rfl, rfl, rfl, Nat.le_refl _, by simp, fun k hlt hn => by
      have hne : k ≠ b := fun e => hn (by simp [vecT, vecI, hob, e])
      simp [World.setRow, Array.getElem?_modify, Ne.symm hne]⟩
    have hsp : splc cur.toList (lo * n) us = splc (cur.toList.take (xs.length * n)) (lo * n) us ++ cur.toList.drop (xs.length * n) := by
      unfold splc
      rw [List.take_take, Nat.min_eq_left (by omega), List.append_assoc _ _ (cur.toList.drop (xs.length * n))]
      congr 1
      rw [List.drop_take]
      have h9 : lo * n + us.length + (xs.length * n - (lo * n + us.length)) = xs.length * n := by omega
      conv => rhs; rhs; rw [← h9, ← List.drop_drop]
      rw [List.take_append_drop]
    have hsl : (splc vs (lo * n) us).length = xs.length * n := by
      have hvl : vs.length = xs.length * n := by rw [← hfit.length, flat_len (fun x _ => he x)]
      unfold splc; simp; omega
    have hflat : splc (xs.flatMap enc) (lo * n) ((List.replicate m zr).flatMap enc) = (xs.take lo ++ List.replicate m zr ++ xs.drop (lo + m)).flatMap enc := by
      unfold splc
      rw [flat_len (fun x _ => he x), List.length_replicate, ← haddm, (flat_parts he xs lo).1, (flat_parts he xs (lo + m)).2, List.flatMap_append, List.flatMap_append]
    have hown : (w.setRow b (splc cur.toList (lo * n) us).toArray).ownsRow 0 (elemOfT P t) n v (xs.take lo ++ List.replicate m zr ++ xs.drop (lo + m)).length (splc vs (lo * n) us) := by
      refine ⟨by rw [hsl, hlen], .inr ⟨b, c', (splc cur.toList (lo * n) us).toArray, by rw [hlen]; exact hv', Nat.zero_le _, setRow_heap w b cur _ (elemOfT P t) _ hb, by rw [hlen]; exact hnc, hcm, ?_, ?_⟩⟩
      · unfold splc; simp; omega
      · rw [hlen, hsp, htk]
        simp [← hsl]
    obtain ⟨g1, g2, g3⟩ := good_head (it' := vecT P t n enc v (xs.take lo ++ List.replicate m zr ++ xs.drop (lo + m))) hg hk (fun k hk' => ⟨by simp [vecT, vecI, hob] at hk'; subst hk'; simpa using hblt, fun _ => hk'⟩) (by simp [vecT, vecI, hob])
      (fun hkk hMM => ⟨splc vs (lo * n) us, hown, by rw [← hflat]; exact (Fit.spl (lo * n) hfit (hfz _ _)).keep hkk hMM⟩)
    exact ⟨_, _, ⟨rfl, rfl⟩, g1, g2, g3, rfl⟩
theorem op_len_vsub {lo m : Nat} {x : Operand} {K : AF → Prop} (hB : isSliceB P t = true) (hx : af.ev x = .vsub v n lo m) (hk : K (af.put d (.exact (.int .i64 (m : Int))))) : opA P ⟨d, .call { callee := .builtin .len, args := #[x], argTypes := #[t] }, ty, pos, after, g⟩ af K := by
  refine ⟨_, fun M w ev _ h => ?_, hk⟩
  obtain ⟨A, l, c, _, _, _, hA⟩ := opnd_p h (x := x) (by simp [Op.operands, Call.operands]) hx
  obtain ⟨e, hu⟩ := isSliceB_spec hB
  simp [execOp, resolve, invoke, builtin, Builtin.len_, hA, run_under hu, goInt, go_sem, UponQ]
  exact ⟨Keeps.refl _ _, rfl⟩
theorem op_index_vsub {e : TypeId} {k : IntKind} {i j : Int} {lo m : Nat} {x y : Operand} {K : AF → Prop} (hB : sliceB P t n = true) (hx : af.ev x = .vsub v n lo m) (hy : af.ev y = .exact (.int k i)) (h0 : 0 ≤ i) (h1 : i.toNat < m) (hl : 0 < xs.length) (hj : j.toNat = lo + i.toNat) (hk : K (af.put d (.eptr v (j.toNat * n)))) :
    opR P ⟨d, .indexAddr t x y, ty, pos, after, g⟩ af (vecT P e n enc v xs :: ρ) K := by
  refine ⟨_, fun F w ev hg h => ?_, hk⟩
  obtain ⟨A, l, c, hv', hc1, hc2, e1⟩ := opnd_p h (x := x) (by simp [Op.operands]) hx
  have e2 := opnd h (x := y) (by simp [Op.operands]) hy
  obtain ⟨b, c', cur, vs, hv, _⟩ := vec_cells (hg.items _ List.mem_cons_self) (by rintro rfl; simp at hl)
  obtain ⟨e', hu, hs⟩ := sliceB_spec hB
  rw [hv] at hv'
  injection hv' with q1 q2 q3
  subst q1 q2 q3
  rw [if_neg (by omega)] at e1
  have hadd0 : Option.map (fun x => x.add (lo * n)) (some (⟨b, 0, none⟩ : Addr)) = some ⟨b, lo * n, none⟩ := by simp [addr_add']
  rw [hadd0] at e1
  have hadd : Addr.add ⟨b, lo * n, none⟩ (i.toNat * n) = ⟨b, j.toNat * n, none⟩ := by rw [addr_at, hj, Nat.add_mul]
  have h1' : i < (m : Int) := by omega
  subst hv
  simp [execOp, Instr.indexAt, e1, e2, run_under hu, asIntOf, h0, h1', run_size hs, hadd, go_sem, UponQ]
  exact ⟨Keeps.refl _ _, b, _, _, rfl, by rw [hj, Nat.add_mul]⟩
end
end Go.Proofs.YtdppkpiagdaigaaGreatDoor
/- append(nil, make(n)): a new row in use, of zeros. -/
namespace Go.Proofs.YtdppkpiagdaigaaGreatDoor
open Go.RowKit

section
variable {P : Program} {af : AF} {σ : Items} {d : Option Tmp} {ty t tn : TypeId} {pos : String} {after : Array Edge} {g : Option (Nat × Bool)} {α : Type} {n : Nat} {enc : α → List AV} {K : AF → Items → Prop}
end
end Go.Proofs.YtdppkpiagdaigaaGreatDoor
/- The nil slice: its capacity, its empty part. -/
namespace Go.Proofs.YtdppkpiagdaigaaGreatDoor
open Go.RowKit

section
variable {P : Program} {af : AF} {d : Option Tmp} {ty t : TypeId} {pos : String} {after : Array Edge} {g : Option (Nat × Bool)} {n : Nat} {K : AF → Prop} {x : Operand}
end
end Go.Proofs.YtdppkpiagdaigaaGreatDoor
/- Appending what another row in use holds. -/
namespace Go.Proofs.YtdppkpiagdaigaaGreatDoor
open Go.RowKit

section
variable {P : Program} {af : AF} {σ ρ : Items} {d : Option Tmp} {ty t e : TypeId} {pos : String} {after : Array Edge} {g : Option (Nat × Bool)} {α : Type} {n : Nat} {enc : α → List AV} {xs ys : List α} {v : Value} {K : AF → Items → Prop}
/-- x reads as ys, while the things in use stand. -/
def BorL (σ : Items) (x : AV) (n : Nat) (enc : α → List AV) (ys : List α) : Prop := ∀ F w u, Good F σ w → x.p (both F (Items.own σ)) w u →
  ∃ A c, u = .slice A ys.length c ∧ ys.length ≤ c ∧ (ys ≠ [] → ∃ b off, A = some ⟨b, off, none⟩ ∧ ∀ (i : Nat) (y : α), ys[i]? = some y → (enc y).length = n ∧ CellsAt (both F (Items.own σ)) w b (off + i * n) (enc y))
theorem BorL.vec (hm : vecT P e n enc v xs ∈ σ) (he : ∀ x, (enc x).length = n) : BorL σ (.exact v) n enc xs := fun F w u hg hx => by
  obtain rfl : u = v := hx
  have hit := hg.items _ hm
  by_cases hne : xs = []
  · subst hne
    obtain ⟨us, hown, _⟩ := hit
    rcases hown.2 with ⟨rfl, _⟩ | ⟨b, cap, cur, rfl, _⟩
    · exact ⟨_, _, rfl, Nat.zero_le _, fun h => absurd rfl h⟩
    · exact ⟨_, _, rfl, Nat.zero_le _, fun h => absurd rfl h⟩
  · obtain ⟨b, c, cur, us, rfl, hb, hnc, _, hcs, htk, hfit⟩ := vec_cells hit hne
    refine ⟨_, _, rfl, hnc, fun _ => ⟨b, 0, rfl, ?_⟩⟩
    have hcells := cells_of_fit (b := b) (off := 0) hfit (fun j u hu => by
      have hj : j < us.length := (List.getElem?_eq_some_iff.1 hu).1
      rw [Nat.zero_add, cell_of_row _ b _ _ _ (0, 0) hb]
      rw [← htk, List.getElem?_take] at hu
      split at hu
      · simpa using hu
      · cases hu)
    intro i x hx
    exact ⟨he x, hcells.sub (fun j a hj => flat_get (fun x _ => he x) hx j a hj)⟩
theorem BorL.vsub {lo m : Nat} (hm : vecT P e n enc v xs ∈ σ) (he : ∀ x, (enc x).length = n) (hl : lo + m ≤ xs.length) : BorL σ (.vsub v n lo m) n enc ((xs.drop lo).take m) := fun F w u hg hx => by
  obtain ⟨A, l, c, rfl, hc1, hc2, rfl⟩ := hx
  obtain ⟨A', c', hv, h1, h4⟩ := BorL.vec (w := w) hm he F _ hg rfl
  injection hv with g1 g2 g3
  subst g1 g2 g3
  have hlen : ((xs.drop lo).take m).length = m := by simp; omega
  refine ⟨(if c = lo then A else A.map (·.add (lo * n))), c - lo, by rw [hlen], by rw [hlen]; exact hc2, fun hne => ?_⟩
  have hxs : xs ≠ [] := by rintro rfl; simp at hne
  obtain ⟨b, off, rfl, hcell⟩ := h4 hxs
  have hpos : 0 < m := by
    rcases Nat.eq_zero_or_pos m with h | h
    · subst h; simp at hne
    · exact h
  rw [if_neg (by omega)]
  refine ⟨b, off + lo * n, by simp [addr_add'], fun q x hq => ?_⟩
  have hq' : xs[lo + q]? = some x := by
    rw [List.getElem?_take] at hq
    split at hq
    · rwa [List.getElem?_drop] at hq
    · cases hq
  obtain ⟨g1, g2⟩ := hcell _ _ hq'
  refine ⟨g1, ?_⟩
  have e : off + (lo + q) * n = off + lo * n + q * n := by rw [Nat.add_mul]; omega
  rwa [e] at g2
end
end Go.Proofs.YtdppkpiagdaigaaGreatDoor
/- Arguments of any plain type opened: what their readings hold; the closing of a row. -/
namespace Go.Proofs.YtdppkpiagdaigaaGreatDoor
open Go.ChangeShapes Go.WideShapes Go.ChangeAt Go.RowKit Go.Deep

theorem Tryz.own : ownKnob Tryz.prog.godebug = none := by kernel_rfl
theorem Tryz.laidOut : laidOutB Tryz.prog = true := by kernel_rfl
theorem Keeps.below {w w' : World} (h : Keeps noB w w') : Below w.heap.size w w' := ⟨h.os, h.tape, h.output, h.size, fun k hk => h.block k hk (fun hf => hf)⟩

section
variable {P : Program} {t e : TypeId} {α β γ δ : Type}
/-- What is read at type t is an x of size sz x. -/
def Opens (P : Program) (t : TypeId) (n : Nat) (enc : α → List AV) (sz : α → Nat) (Q : α → Prop) : Prop :=
  ∀ {H : Type} (e0 : TypeId × Value → H) (W : World) (fuel : Nat) (cs : List Value) (y : DataW H × List MemPlace), DataW.trod e0 P W 0 (fun _ => true) true fuel t cs = some y → ∃ x : α, Q x ∧ cs.length = n ∧ Fit noB W (enc x) cs ∧ sz x ≤ Rows.uptoBulk y.1
theorem opens_int {k : IntKind} (ht : P.underlying t = some (.int k)) : Opens P t 1 (fun x : Int => [.exact (.int k x)]) (fun _ => 1) (fun x => (Lit.int k x).wf = true) := fun e0 W fuel cs y h => by
  obtain ⟨n, rfl, rfl, hw⟩ := DataW.trod_int ht h
  exact ⟨n, hw, rfl, ⟨rfl, trivial⟩, by simp [Rows.uptoBulk]⟩
theorem opens_str (ht : P.underlying t = some .string) : Opens P t 1 (fun x : List UInt8 => [.exact (.string (bs x))]) (fun x => x.length + 1) (fun x => x.length ≤ maxLen) := fun e0 W fuel cs y h => by
  obtain ⟨s, rfl, rfl, hm⟩ := DataW.trod_string ht h
  refine ⟨s.data.toList, by simpa using hm, rfl, ⟨rfl, trivial⟩, by simp [Rows.uptoBulk]⟩
theorem list_of {R : Nat → α → Prop} : ∀ n : Nat, (∀ i, i < n → ∃ x, R i x) → ∃ xs : List α, xs.length = n ∧ ∀ i x, xs[i]? = some x → R i x
  | 0, _ => ⟨[], rfl, fun i x h => by simp at h⟩
  | n + 1, h => by
    obtain ⟨xs, hl, hx⟩ := list_of n (fun i hi => h i (by omega))
    obtain ⟨x, hr⟩ := h n (by omega)
    refine ⟨xs ++ [x], by simp [hl], fun i y hy => ?_⟩
    rw [List.getElem?_append] at hy
    split at hy
    · exact hx i y hy
    · rename_i hge
      have : i = n := by
        have := (List.getElem?_eq_some_iff.1 hy).1
        simp at this; omega
      subst this
      simp [hl] at hy; subst hy; exact hr
/-- The size of a list. -/
def szL (sz : α → Nat) (xs : List α) : Nat := (xs.map sz).sum
theorem bulk_elems {H : Type} {sz : α → Nat} : ∀ (xs : List α) (n : Nat) (D : Nat → DataW H), xs.length = n → (∀ i x, xs[i]? = some x → sz x ≤ Rows.uptoBulk (D i)) → szL sz xs ≤ Rows.uptoBulkAll ((List.range n).map D)
  | xs, n, D, hl, h => by
    subst hl
    induction xs generalizing D with
    | nil => simp [szL]
    | cons x xs ih =>
      have h0 := h 0 x rfl
      have h1 := ih (fun i => D (i + 1)) (fun i y hy => h (i + 1) y (by simpa using hy))
      rw [List.length_cons, List.range_succ_eq_map, List.map_cons, List.map_map]
      simp only [szL, List.map_cons, List.sum_cons, Rows.uptoBulkAll] at h1 ⊢
      exact Nat.add_le_add h0 h1
theorem opens_slice {n : Nat} {enc : α → List AV} {sz : α → Nat} {Q : α → Prop} (ht : P.underlying t = some (.slice e)) (hc : P.cellsOf e = n) (hn : 0 < n) (hx : Opens P e n enc sz Q) :
    Opens P t 1 (fun xs : List α => [.row n enc xs]) (fun xs => szL sz xs + 1) (fun xs => xs.length ≤ maxLen ∧ ∀ x ∈ xs, Q x) := fun e0 W fuel cs y h => by
  rcases open_slice ht h with ⟨rfl, rfl⟩ | ⟨a, len, cap, m, k, D, Pl, rfl, _, hl, hm, hmm, rfl, hel⟩
  · exact ⟨[], ⟨by simp, by simp⟩, rfl, ⟨⟨none, 0, rfl, by simp, by simp, fun h => absurd rfl h⟩, trivial⟩, by simp [szL, Rows.uptoBulk]⟩
  · simp only [if_true] at hmm
    obtain ⟨xs, hxl, hxs⟩ := list_of (R := fun i x => Q x ∧ sz x ≤ Rows.uptoBulk (D i) ∧ ∃ cs', cs'.length = n ∧ Fit noB W (enc x) cs' ∧ ∀ j, j < n → W.cell? ((a.add (i * n)).add j) = cs'[j]?) len (fun i hi => by
      obtain ⟨cs', h1, h2⟩ := hel i (by omega)
      obtain ⟨x, q, l, f, s⟩ := hx e0 W _ _ _ h2
      rw [hc] at h1
      obtain ⟨_, hcl, hat⟩ := World.cells?_some h1
      exact ⟨x, q, s, cs', hcl, f, hat⟩)
    refine ⟨xs, ⟨by omega, fun x hxm => ?_⟩, rfl, ⟨?_, trivial⟩, ?_⟩
    · obtain ⟨i, hi⟩ := List.mem_iff_getElem?.1 hxm
      exact (hxs i x hi).1
    · unfold maxLen at hm
      refine ⟨some a, cap, by rw [hxl], by omega, by omega, fun hne => ?_⟩
      have hpos : 0 < xs.length := List.length_pos_iff.2 hne
      obtain ⟨_, _, c0, hc0, _, ha0⟩ := hxs 0 xs[0] (List.getElem?_eq_getElem hpos)
      have h00 := ha0 0 hn
      rw [List.getElem?_eq_getElem (by omega)] at h00
      obtain ⟨b, off, spot⟩ := a
      have hspot : spot = none := by simpa [Addr.add] using World.cell?_spot h00
      subst hspot
      refine ⟨b, off, rfl, ?_, fun hf => hf, fun i x hi => ?_⟩
      · have := World.block_lt_of_cell? W _ h00
        simpa [Addr.add] using this
      · obtain ⟨_, _, cs', hcl, hf, hat⟩ := hxs i x hi
        have hle : (enc x).length = n := by rw [hf.length, hcl]
        refine ⟨hle, cells_of_fit hf (fun j u hu => ?_)⟩
        have hj : j < n := by rw [← hcl]; exact (List.getElem?_eq_some_iff.1 hu).1
        have := hat j hj
        rw [hu] at this
        rw [← this, addr_add', addr_add']
    · have := bulk_elems xs len D hxl (fun i x hi => (hxs i x hi).2.1)
      simp only [Rows.uptoBulk]
      omega
/-- An argument that is one value, no aggregate. -/
theorem arg_open {n : Nat} {enc : α → List AV} {sz : α → Nat} {Q : α → Prop} (h : Opens P t n enc sz Q) {H : Type} {e0 : TypeId × Value → H} {W : World} {v : Value} {d : DataW H} {p : List MemPlace} (hv : v.cells = #[v]) (hd : DataW.Trod e0 P W 0 (fun _ => true) true t v d p) :
    ∃ x : α, Q x ∧ Fit noB W (enc x) [v] ∧ sz x ≤ Rows.uptoBulk d := by
  obtain ⟨fuel, hf⟩ := hd
  rw [hv] at hf
  obtain ⟨x, q, _, k, s⟩ := h e0 W _ _ _ hf
  exact ⟨x, q, k, s⟩
theorem plain_slice {W : World} {v : Value} (ht : P.underlying t = some (.slice e)) (h : Value.okWide P W .any 0 t v) : v.cells = #[v] := by
  obtain ⟨a, n, c, rfl⟩ := okWide_slice ht h; rfl
theorem plain_str {W : World} {v : Value} (ht : P.underlying t = some .string) (h : Value.okWide P W .any 0 t v) : v.cells = #[v] := by
  obtain ⟨n, rfl⟩ := okWide_string ht h; rfl
theorem szL_mem {sz : α → Nat} {x : α} : ∀ {xs : List α}, x ∈ xs → sz x ≤ szL sz xs
  | y :: xs, h => by
    rcases List.mem_cons.1 h with rfl | h
    · simp [szL]
    · have := szL_mem (sz := sz) h; simp [szL] at *; omega
end

theorem post_of_below {H : Type} {enc : TypeId × Value → H} {P : Program} {f : Func} {s : ChangeSpec} {apart fresh handsOn again : Bool} {W W' : World} {args : Array Value} {v : Value} {ds gs : List (DataW H)} {before pa pv : List MemPlace}
    (hW : DataW.Whole enc P f.params.toList s.vars apart W args.toList ds gs before)
    (hres : ∀ (b : Nat) (sp : Nat → Bool) (hd : Bool), DataW.TrodAll enc P W' b sp hd f.resultTypes.toList (v.resultList f.resultTypes.size) (s.fn H (ds ++ gs)).results [])
    (hargs : ∀ sp : Nat → Bool, (∀ p ∈ before, sp p.block = true) → DataW.TrodAll enc P W' 0 sp true f.params.toList args.toList (s.fn H (ds ++ gs)).args pa)
    (hvars : ∀ sp : Nat → Bool, (∀ p ∈ before, sp p.block = true) → DataW.TrodVars enc P W' sp s.vars (s.fn H (ds ++ gs)).vars pv)
    (hps : before = pa ++ pv) (hb : Below W.heap.size W W')
    (hok : ∀ (j : Nat) (t : TypeId) (r : Value), f.resultTypes[j]? = some t → (v.resultList f.resultTypes.size)[j]? = some r → Value.okWide P W' .any 0 t r) :
    s.post enc P f apart fresh handsOn again W args v W' := by
  have hlt : ∀ p ∈ before, p.block < W.heap.size := fun p hp => hW.lt p hp
  have hold : ∀ p ∈ before, (fun b => decide (b < W.heap.size)) p.block = true := fun p hp => by simpa using hlt p hp
  refine ⟨ds, gs, before, [], pa, pv, hW, hres _ _ _, hargs _ hold, hvars _ hold, World.keptBut_mono (fun p hp => ⟨hp, ?_⟩) (hb.frame (· ∈ before)), fun _ => ?_⟩
  · rw [hps, List.mem_append] at hp
    exact Or.inr hp
  · obtain ⟨_, _, _, _, _, hz, hn⟩ := hW
    refine ⟨hok, _, _, ([] ++ pa) ++ pv, ⟨[] ++ pa, pv, trodAll_append (hargs _ (fun _ _ => rfl)) (hres _ _ _), hvars _ (fun _ _ => rfl), rfl, ?_, ?_⟩, ?_⟩
    · intro b off hp
      have hin : MemPlace.cell b off ∈ before := by rw [hps]; simpa using hp
      rw [hb.frozen (hlt _ hin)]
      exact hz b off hin
    · intro ha
      have := hn ha
      rw [hps] at this
      simpa using this
    · intro p hp _
      rw [hps]
      simpa using hp

/-- A reading behind the call, whatever places are spare. -/
theorem trod_after {H : Type} {enc : TypeId × Value → H} {t : TypeId} (hr : Tryz.prog.readableRec t = true) (hrow : t < Tryz.prog.types.size) {W W' : World} {v : Value} {d : DataW H} {ps before : List MemPlace}
    (h : DataW.Trod enc Tryz.prog W 0 (fun _ => true) true t v d ps) (hb : Below W.heap.size W W') (hlt : ∀ x ∈ ps, x.block < W.heap.size) (hin : ∀ x ∈ ps, x ∈ before) (sp : Nat → Bool) (hsp : ∀ p ∈ before, sp p.block = true) :
    DataW.Trod enc Tryz.prog W' 0 sp true t v d ps :=
  WideElems.Trod_stays Tryz.laidOut hr hrow h (fun x hx => hb.same (hlt x hx)) (fun x hx => hsp x (hin x hx))

/-- The call of a function that touches nothing. -/
theorem Pure.call {P : Program} {f : FuncId} {args : List AV} {r : Value} (h : Pure P f args (.exact r)) {W : World} {vs : List Value} (hv : Fit noB W args vs) : Calls P f vs.toArray W (fun e w' => e = .returned r ∧ Below W.heap.size W w') :=
  (h noB W vs (fun _ hk => hk.elim) hv).mono fun e w' ⟨v, e1, e2, e3⟩ => ⟨by rw [e1]; exact congrArg _ e3, e2.below⟩
end Go.Proofs.YtdppkpiagdaigaaGreatDoor
/- copy within a row in use; arrays in use; a row cut to its length. -/
namespace Go.Proofs.YtdppkpiagdaigaaGreatDoor
open Go.RowKit

section
variable {P : Program} {af : AF} {σ ρ : Items} {d : Option Tmp} {ty t e : TypeId} {pos : String} {after : Array Edge} {g : Option (Nat × Bool)} {α : Type} {n : Nat} {enc : α → List AV} {xs ys : List α} {v : Value}
theorem loadCells_list {w : World} {b o : Nat} (us : List Value) (h : ∀ j, j < us.length → ∃ u, us[j]? = some u ∧ w.cell? ⟨b, o + (0 + j), none⟩ = some u) : (loadCells ⟨b, o, none⟩ us.length).run P w = .ok us.toArray w := by
  have := run_cells (P := P) (w := w) (b := b) us.length o 0 us #[] h rfl
  unfold loadCells
  rw [this]; simp
theorem op_copy {lo1 m1 lo2 m2 q : Nat} {x y : Operand} {t2 : TypeId} {K : AF → Items → Prop} (hE : elB P t n = true) (hE2 : elB P t2 n = true) (he : ∀ x, (enc x).length = n) (ho : ∀ x, OneC (enc x)) (hx : af.ev x = .vsub v n lo1 m1) (hy : af.ev y = .vsub v n lo2 m2) (hl1 : lo1 + m1 ≤ xs.length) (hl2 : lo2 + m2 ≤ xs.length) (hq : Nat.min m2 m1 = q)
    (hk : K (af.put d (.exact (.int .i64 (q : Int)))) (vecT P e n enc v (xs.take lo1 ++ (xs.drop lo2).take q ++ xs.drop (lo1 + q)) :: ρ)) : opB P ⟨d, .call { callee := .builtin .copy, args := #[x, y], argTypes := #[t, t2] }, ty, pos, after, g⟩ af (vecT P e n enc v xs :: ρ) K := by
  refine ⟨fun a s => a = .exact (.int .i64 (q : Int)) ∧ s = vecT P e n enc v (xs.take lo1 ++ (xs.drop lo2).take q ++ xs.drop (lo1 + q)) :: ρ, fun F w ev hg h => ?_, fun av s ⟨e1, e2⟩ => by subst e1 e2; exact hk⟩
  obtain ⟨ht, hn0, I, zz, hi, hz', hi1, hi2, hi3⟩ := elB_spec hE
  obtain ⟨A, l, c, hv, hc1, hc2, e1⟩ := opnd_p h (x := x) (by simp [Op.operands, Call.operands]) hx
  obtain ⟨A2, l2, c2, hv2, hc3, hc4, e2⟩ := opnd_p h (x := y) (by simp [Op.operands, Call.operands]) hy
  rw [hv] at hv2
  injection hv2 with q1 q2 q3
  subst q1 q2 q3
  have hq1 : q ≤ m1 := by rw [← hq]; exact Nat.min_le_right _ _
  have hq2 : q ≤ m2 := by rw [← hq]; exact Nat.min_le_left _ _
  have hlen : (xs.take lo1 ++ (xs.drop lo2).take q ++ xs.drop (lo1 + q)).length = xs.length := by simp; omega
  by_cases hm : q = 0
  · have hxs : xs.take lo1 ++ (xs.drop lo2).take 0 ++ xs.drop (lo1 + 0) = xs := by simp
    have hcl : (Builtin.copy_ #[t, t2] ty #[ev x, ev y]).run P w = .ok (.int .i64 ((0 : Nat) : Int)) w := by
      rw [e1, e2]
      have hq0 : Nat.min m2 m1 = 0 := by omega
      split <;> split <;> (try cases A) <;> simp [Builtin.copy_, run_underlying ht, Builtin.lenOf, Builtin.firstCells, sizeOf, typeInfo, hi, hq0, loadCells, loadCellsFrom, storeCells, goInt]
    have hrun : (execOp ev ⟨d, .call { callee := .builtin .copy, args := #[x, y], argTypes := #[t, t2] }, ty, pos, after, g⟩).run P w = .ok (.value (.int .i64 ((0 : Nat) : Int))) w := by
      unfold execOp
      simp only [resolve, invoke, builtin, Sem.run_bind, Sem.run_pure, Result.andThen_ok, List.map_toArray, List.map_cons, List.map_nil, hcl]
    rw [hrun]
    subst hm
    refine ⟨_, _, ⟨rfl, rfl⟩, by rw [hxs]; exact hg, (Keeps.refl noB w).mono (fun _ _ h => h.elim), by rw [hxs]; exact fun k h _ => h, rfl⟩
  · obtain ⟨b, c', cur, vs, hv', hb, hnc, hcm, hcs, htk, hfit⟩ := vec_cells (hg.items _ List.mem_cons_self) (by rintro rfl; simp at hl1; omega)
    rw [hv'] at hv
    injection hv with q1 q2 q3
    subst q1 q2 q3
    rw [if_neg (by omega)] at e1 e2
    have hadd : ∀ k, Option.map (fun x => x.add (k * n)) (some (⟨b, 0, none⟩ : Addr)) = some ⟨b, k * n, none⟩ := fun k => by simp [addr_add']
    rw [hadd] at e1 e2
    have hbm1 : (lo1 + m1) * n ≤ xs.length * n := Nat.mul_le_mul_right _ hl1
    have hbm2 : (lo2 + m2) * n ≤ xs.length * n := Nat.mul_le_mul_right _ hl2
    have hcn : xs.length * n ≤ cur.size := by rw [hcs]; exact Nat.mul_le_mul_right _ hnc
    have ha1 : (lo1 + m1) * n = lo1 * n + m1 * n := Nat.add_mul _ _ _
    have ha2 : (lo2 + m2) * n = lo2 * n + m2 * n := Nat.add_mul _ _ _
    have hqn1 : q * n ≤ m1 * n := Nat.mul_le_mul_right _ hq1
    have hqn2 : q * n ≤ m2 * n := Nat.mul_le_mul_right _ hq2
    have hvl : vs.length = xs.length * n := by rw [← hfit.length, flat_len (fun x _ => he x)]
    generalize hus : (vs.drop (lo2 * n)).take (q * n) = us
    have hul : us.length = q * n := by rw [← hus]; simp; omega
    have hfu : Fit (both F (Items.own (vecT P e n enc v xs :: ρ))) w (((xs.drop lo2).take q).flatMap enc) us := by
      have := (hfit.drop (lo2 * n)).take (q * n)
      rw [(flat_parts he xs lo2).2, (flat_parts he (xs.drop lo2) q).1, hus] at this
      exact this
    have h1c : ∀ u ∈ us, u.oneCell' = true := (OneC.flatT (xs := (xs.drop lo2).take q) ho).fit hfu
    have hld : (loadCells ⟨b, lo2 * n, none⟩ (q * n)).run P w = .ok us.toArray w := by
      rw [← hul]
      refine loadCells_list us (fun j hj => ?_)
      rw [hul] at hj
      have hjv : lo2 * n + j < vs.length := by omega
      obtain ⟨u, hu⟩ : ∃ u, vs[lo2 * n + j]? = some u := ⟨_, List.getElem?_eq_getElem hjv⟩
      refine ⟨u, by rw [← hus, List.getElem?_take, if_pos hj, List.getElem?_drop]; exact hu, ?_⟩
      rw [cell_of_row _ b _ _ _ (0, 0) hb, Nat.zero_add]
      have this := hu
      rw [← htk, List.getElem?_take] at this
      split at this
      · simpa using this
      · cases this
    have hst := run_storeCells_at (P := P) b (lo1 * n) (elemOfT P e) us 0 cur w hb (by omega) h1c
    simp only [Nat.add_zero, hul] at hst
    have hcl : (Builtin.copy_ #[t, t2] ty #[ev x, ev y]).run P w = .ok (.int .i64 (q : Int)) (w.setRow b (splc cur.toList (lo1 * n) us).toArray) := by
      rw [e1, e2]
      simp [Builtin.copy_, run_underlying ht, Builtin.lenOf, Builtin.firstCells, sizeOf, typeInfo, hi, hi1, hq, hld, hst, splc, hul, goInt]
    have hrun : (execOp ev ⟨d, .call { callee := .builtin .copy, args := #[x, y], argTypes := #[t, t2] }, ty, pos, after, g⟩).run P w = .ok (.value (.int .i64 (q : Int))) (w.setRow b (splc cur.toList (lo1 * n) us).toArray) := by
      unfold execOp
      simp only [resolve, invoke, builtin, Sem.run_bind, Sem.run_pure, Result.andThen_ok, List.map_toArray, List.map_cons, List.map_nil, hcl]
    rw [hrun]
    have hblt := (Array.getElem?_eq_some_iff.1 hb).1
    have hob : v.ownBlock = some b := by rw [hv']; rfl
    have hk : Keeps (fun k => k ∈ (vecT P e n enc v xs).own) w (w.setRow b (splc cur.toList (lo1 * n) us).toArray) := ⟨rfl, rfl, rfl, Nat.le_refl _, by simp, fun k hlt hn => by
      have hne : k ≠ b := fun e => hn (by simp [vecT, vecI, hob, e])
      simp [World.setRow, Array.getElem?_modify, Ne.symm hne]⟩
    have hqa : (lo1 + q) * n = lo1 * n + q * n := Nat.add_mul _ _ _
    have hsp : splc cur.toList (lo1 * n) us = splc (cur.toList.take (xs.length * n)) (lo1 * n) us ++ cur.toList.drop (xs.length * n) := by
      unfold splc
      rw [List.take_take, Nat.min_eq_left (by omega), List.append_assoc _ _ (cur.toList.drop (xs.length * n))]
      congr 1
      rw [List.drop_take]
      have h9 : lo1 * n + us.length + (xs.length * n - (lo1 * n + us.length)) = xs.length * n := by omega
      conv => rhs; rhs; rw [← h9, ← List.drop_drop]
      rw [List.take_append_drop]
    have hsl : (splc vs (lo1 * n) us).length = xs.length * n := by
      unfold splc; simp; omega
    have hX : Fit (both F (Items.own (vecT P e n enc v xs :: ρ))) w ((xs.take lo1 ++ (xs.drop lo2).take q ++ xs.drop (lo1 + q)).flatMap enc) (splc vs (lo1 * n) us) := by
      unfold splc
      rw [List.flatMap_append, List.flatMap_append, hul, ← hqa]
      have f1 := hfit.take (lo1 * n)
      rw [(flat_parts he xs lo1).1] at f1
      have f2 := hfit.drop ((lo1 + q) * n)
      rw [(flat_parts he xs (lo1 + q)).2] at f2
      exact (f1.app hfu).app f2
    have hnew : (w.setRow b (splc cur.toList (lo1 * n) us).toArray).ownsRow 0 (elemOfT P e) n v (xs.take lo1 ++ (xs.drop lo2).take q ++ xs.drop (lo1 + q)).length (splc vs (lo1 * n) us) := by
      refine ⟨by rw [hsl, hlen], .inr ⟨b, c', (splc cur.toList (lo1 * n) us).toArray, by rw [hlen]; exact hv', Nat.zero_le _, setRow_heap w b cur _ (elemOfT P e) _ hb, by rw [hlen]; exact hnc, hcm, ?_, ?_⟩⟩
      · unfold splc; simp; omega
      · rw [hlen, hsp, htk]
        simp [← hsl]
    obtain ⟨g1, g2, g3⟩ := good_head (it' := vecT P e n enc v (xs.take lo1 ++ (xs.drop lo2).take q ++ xs.drop (lo1 + q))) hg hk (fun k hk' => ⟨by simp [vecT, vecI, hob] at hk'; subst hk'; simpa using hblt, fun _ => by simp [vecT, vecI, hob] at hk' ⊢; exact hk'⟩) (by simp [vecT, vecI, hob])
      (fun hkk hMM => ⟨_, hnew, hX.keep hkk hMM⟩)
    exact ⟨_, _, ⟨rfl, rfl⟩, g1, g2, g3, rfl⟩

/-- make([]T, i): a new row in use, of zeros. -/
theorem op_make {x y : Operand} {i : Int} {k1 k2 : IntKind} {zr : α} {z : Value} {K : AF → Items → Prop} (hE : elB P t n = true) (hx : af.ev x = .exact (.int k1 i)) (hy : af.ev y = .exact (.int k2 i)) (h0 : 0 ≤ i) (h1 : i ≤ 137438953472) (he : ∀ x, (enc x).length = n)
    (hz : ∀ w, (zeroValue (elemOfT P t)).run P w = .ok z w) (hzf : ∀ M w, Fit M w (enc zr) z.cells.toList) (hk : ∀ v', K (af.put d (.exact v')) (vecT P t n enc v' (List.replicate i.toNat zr) :: σ)) :
    opB P ⟨d, .makeSlice t x y, ty, pos, after, g⟩ af σ K := by
  refine ⟨fun a s => ∃ v', a = .exact v' ∧ s = vecT P t n enc v' (List.replicate i.toNat zr) :: σ, fun F w ev hg h => ?_, fun av s ⟨v', e1, e2⟩ => by subst e1 e2; exact hk v'⟩
  obtain ⟨ht, hn0, I, zz, hi, hz', hi1, hi2, hi3⟩ := elB_spec hE
  have e1 := opnd h (x := x) (by simp [Op.operands]) hx
  have e2 := opnd h (x := y) (by simp [Op.operands]) hy
  have hzz : zz = z := by
    have a1 := run_zero (P := P) (t := elemOfT P t) (z := zz) (w := w) (by rw [hi]; exact hz')
    have a2 := hz w
    rw [a1] at a2
    injection a2
  subst hzz
  obtain ⟨m, rfl⟩ : ∃ m : Nat, i = m := ⟨i.toNat, by omega⟩
  have hb : (I.bytes : Int) * (m : Int) ≤ 281474976710656 := by
    have h9 : I.bytes * m ≤ 1024 * 137438953472 := Nat.mul_le_mul hi2 (by omega)
    rw [← Int.natCast_mul]
    generalize I.bytes * m = q at h9
    omega
  have hrun0 := run_make w t (elemOfT P t) I zz ht hi hz' k1 k2 (m : Int) (m : Int) h0 (Int.le_refl _) hb (by omega)
  simp only [Int.toNat_natCast] at hrun0
  have hmc : madeCells zz.cells (m * I.size) = Builtin.zeroCells zz.cells m := by
    rw [hi1]
    simp [madeCells, Builtin.zeroCells, hi3]
  rw [hmc] at hrun0
  have hrun : (execOp ev ⟨d, .makeSlice t x y, ty, pos, after, g⟩).run P w = .ok (.value (.slice (some ⟨w.heap.size, 0, none⟩) m m)) (w.alloc (.cells (Builtin.zeroCells zz.cells m) (elemOfT P t))) := by
    unfold execOp
    simp only [e1, e2, Sem.run_bind, hrun0, Result.andThen_ok, Sem.run_pure]
  rw [hrun]
  simp only [Int.toNat_natCast]
  have hb2 : (w.alloc (.cells (Builtin.zeroCells zz.cells m) (elemOfT P t))).heap[w.heap.size]? = some (.cells (Builtin.zeroCells zz.cells m) (elemOfT P t) (0, 0)) := heap_alloc_new w _
  have hzs : (Builtin.zeroCells zz.cells m).size = m * n := by simp [Builtin.zeroCells, hi3]
  exact out_new (post := fun a s => ∃ v', a = .exact v' ∧ s = vecT P t n enc v' (List.replicate m zr) :: σ) (it := vecT P t n enc (.slice (some ⟨w.heap.size, 0, none⟩) m m) (List.replicate m zr)) hg (by simp [vecT, vecI, Value.ownBlock])
    (fun M hM => ⟨(Builtin.zeroCells zz.cells m).toList, ⟨by simp [hzs], .inr ⟨w.heap.size, m, _, by simp, Nat.zero_le _, hb2, by simp, by simp only [maxLen]; omega, hzs, by rw [List.length_replicate, ← hzs, ← Array.length_toList, List.take_length]⟩⟩, fit_zeros (hzf _ _) m⟩) (fun M => rfl) ⟨_, rfl, rfl⟩
/-! ### Arrays in use: one cell an element -/
end
end Go.Proofs.YtdppkpiagdaigaaGreatDoor
/- Appending a string's bytes. -/
namespace Go.Proofs.YtdppkpiagdaigaaGreatDoor
open Go.RowKit

section
variable {P : Program} {af : AF} {σ ρ : Items} {d : Option Tmp} {ty t u : TypeId} {pos : String} {after : Array Edge} {g : Option (Nat × Bool)} {xs ys : List UInt8} {v : Value} {K : AF → Items → Prop} {enc : UInt8 → List AV}
theorem fit_strCells {M : BSet} {w : World} (henc : ∀ x, enc x = [.exact (.int .u8 (x.toNat : Int))]) : ∀ ys : List UInt8, Fit M w (ys.flatMap enc) (ys.map fun b => Value.int .u8 b.toNat)
  | [] => trivial
  | y :: ys => by rw [List.flatMap_cons, henc, List.map_cons]; exact ⟨rfl, fit_strCells henc ys⟩
theorem loud_appendS {s x : Operand} {m : Nat} {c : List AV} (henc : ∀ x, enc x = [.exact (.int .u8 (x.toNat : Int))]) (hE : elB P t 1 = true) (hu : isStrB P u = true) (hz : (P.info? (elemOfT P t)).bind (·.zero) = some (.int .u8 0)) (hby : ((P.info? (elemOfT P t)).map (·.bytes)) = some 1)
    (hs : af.ev s = .exact v) (hx : af.ev x = .exact (.string (bs ys))) (hl : m + ys.length ≤ 137438953472) :
    Loud P ⟨d, .call { callee := .builtin .append, args := #[s, x], argTypes := #[t, u] }, ty, pos, after, g⟩ af (vecI P t v 1 m c :: ρ) (fun a σ' => ∃ v', a = .exact v' ∧ σ' = vecI P t v' 1 (m + ys.length) (c ++ ys.flatMap enc) :: ρ) := by
  intro F w ev hg h
  obtain ⟨ht, hn0, i, z, hi, hz', hi1, hi2, hi3⟩ := elB_spec hE
  have hus := isStrB_spec hu
  have e1 := opnd h (x := s) (by simp [Op.operands, Call.operands]) hs
  have e2 := opnd h (x := x) (by simp [Op.operands, Call.operands]) hx
  obtain ⟨xs, hown, hfit⟩ := hg.items (vecI P t v 1 m c) List.mem_cons_self
  rw [hi] at hz hby
  simp only [Option.bind_some, Option.map_some, Option.some.injEq] at hz hby
  have hsz : (bs ys).size = ys.length := by simp [ByteArray.size]
  have hrun : ∃ v' w', (Builtin.append_ #[t, u] ty #[v, .string (bs ys)]).run P w = .ok v' w' ∧ w'.ownsRow 0 (elemOfT P t) 1 v' (m + ys.length) (xs ++ ys.map fun b => Value.int .u8 b.toNat) ∧ w.grownBy w' v.ownBlock ∧ (v'.ownBlock = v.ownBlock ∨ v'.ownBlock = some w.heap.size) := by
    obtain ⟨v', w', h1, h2, h3, h4⟩ := Go.Lib.run_append_own_string (P := P) w 0 t u ty (elemOfT P t) i ht hus hi hz hi1 hby v m xs hown (bs ys) (by rw [hsz]; simp only [maxLen]; omega) (by rw [hsz]; omega) (Nat.zero_le _)
    rw [hsz] at h2
    refine ⟨v', w', h1, h2, h3, ?_⟩
    rcases hown.2 with ⟨rfl, rfl⟩ | ⟨q, cap, cur, rfl, _, hg, hnc, hcm, hcs, htake⟩
    · by_cases hm : (bs ys).size = 0
      · exact .inl (by rw [h4.2 ⟨rfl, hm⟩])
      · have hr := run_append_nil_string (P := P) w t u ty (elemOfT P t) i (.int .u8 0) ht hus hi hz (bs ys) (by omega) (by rw [hsz]; omega) (by rw [hby, hsz]; omega)
        rw [h1] at hr
        injection hr with a1 a2
        exact .inr (by rw [a1]; rfl)
    · by_cases hroom : m + (bs ys).size ≤ cap
      · have hr := Go.Lib.run_append_room_string (P := P) w t u ty (elemOfT P t) i ht hus hi hi1 q m cap cur hg (bs ys) hroom (by omega)
        rw [h1] at hr
        injection hr with a1 a2
        exact .inl (by rw [a1]; rfl)
      · have holds : ∀ j u, xs[j]? = some u → w.cell? ((⟨q, 0, none⟩ : Addr).add j) = some u := hown.cells (g := q) rfl
        have hr := Go.Lib.run_append_grow_string (P := P) w t u ty (elemOfT P t) i (.int .u8 0) ht hus hi hz ⟨q, 0, none⟩ m cap xs (by rw [hi1]; exact hown.1) holds (bs ys) (by omega) (by rw [hsz]; omega) (by rw [hby]; exact growslice_fits (by omega) (by rw [hsz]; omega))
        rw [h1] at hr
        injection hr with a1 a2
        exact .inr (by rw [a1]; rfl)
  obtain ⟨v', w', h1, h2, h3, h5⟩ := hrun
  have hf := fit_strCells (M := both F (Items.own (vecI P t v 1 m c :: ρ))) (w := w) henc ys
  have hrun' : (execOp ev ⟨d, .call { callee := .builtin .append, args := #[s, x], argTypes := #[t, u] }, ty, pos, after, g⟩).run P w = .ok (.value v') w' := by
    unfold execOp
    simp only [resolve, invoke, builtin, Sem.run_bind, Sem.run_pure, Result.andThen_ok, List.map_toArray, List.map_cons, List.map_nil, e1, e2, h1]
  rw [hrun']
  have hk : Keeps (fun k => k ∈ (vecI P t v 1 m c).own) w w' := ⟨h3.os, h3.tape, h3.output, run_drawn _ _ _ _ h1, h3.size, fun k hlt hn => h3.block k hlt (fun e => hn (by simp [vecI, ← e]))⟩
  obtain ⟨g1, g2, g3⟩ := good_head (it' := vecI P t v' 1 (m + ys.length) (c ++ ys.flatMap enc)) hg hk (fun k hk' => by
      have hk'' : v'.ownBlock = some k := by simpa [vecI] using hk'
      refine ⟨(h2.lt k hk'').2, fun hlt => ?_⟩
      rcases h5 with h5 | h5
      · simp [vecI, ← h5, hk'']
      · rw [h5] at hk''; injection hk'' with e; omega) (by cases h : v'.ownBlock <;> simp [vecI, h])
    (fun hkk hMM => ⟨_, h2, (hfit.keep hkk hMM).app (hf.keep hkk hMM)⟩)
  exact ⟨_, _, ⟨v', rfl, rfl⟩, g1, g2, g3, rfl⟩
theorem op_appTS {s z : Operand} (henc : ∀ x, enc x = [.exact (.int .u8 (x.toNat : Int))]) (hE : elB P t 1 = true) (hu : isStrB P u = true) (hz : (P.info? (elemOfT P t)).bind (·.zero) = some (.int .u8 0)) (hby : ((P.info? (elemOfT P t)).map (·.bytes)) = some 1)
    (hs : af.ev s = .exact v) (hx : af.ev z = .exact (.string (bs ys))) (hl : xs.length + ys.length ≤ LIM) (hk : ∀ v', K (af.put d (.exact v')) (vecT P t 1 enc v' (xs ++ ys) :: ρ)) :
    opB P ⟨d, .call { callee := .builtin .append, args := #[s, z], argTypes := #[t, u] }, ty, pos, after, g⟩ af (vecT P t 1 enc v xs :: ρ) K :=
  ⟨_, loud_appendS henc hE hu hz hby hs hx hl, fun av σ' ⟨v', e1, e2⟩ => by
    subst e1 e2
    have := hk v'
    unfold vecT at this
    rwa [List.length_append, List.flatMap_append] at this⟩
end
end Go.Proofs.YtdppkpiagdaigaaGreatDoor
/- Regions in whatever order in which a fresh variable may come earlier than planned: a new block beside what is in use changes nothing for the others. -/
namespace Go.Proofs.YtdppkpiagdaigaaGreatDoor
open Go.RowKit

section
variable {P : Program} {ops : Array Oper} {E : Env} {n : Nat} {af : AF} {σ : Items} {F : BSet} {w : World} {it : Item}

theorem both_cons : both (both F (fun k => k ∈ it.own)) (Items.own σ) = both F (Items.own (it :: σ)) := by
  funext k
  simp only [both, own_cons, eq_iff_iff]
  constructor
  · rintro ((h | h) | h)
    · exact .inl h
    · exact .inr (.inl h)
    · exact .inr (.inr h)
  · rintro (h | h | h)
    · exact .inl (.inl h)
    · exact .inl (.inr h)
    · exact .inr h
theorem good_frame (hg : Good F (it :: σ) w) : Good (both F (fun k => k ∈ it.own)) σ w := by
  have hnd := hg.nodup
  rw [List.flatMap_cons, List.nodup_append] at hnd
  refine ⟨fun k h => h.elim (hg.fr k) (fun h => (hg.own k (own_cons.2 (.inl h))).1), fun k h => ⟨(hg.own k (own_cons.2 (.inr h))).1, fun h' => h'.elim (hg.own k (own_cons.2 (.inr h))).2 (fun h' => hnd.2.2 k h' k h rfl)⟩, hnd.2.1, fun x hx => ?_⟩
  rw [both_cons]
  exact hg.items x (List.mem_cons_of_mem _ hx)
theorem out_frame {post : AV → Items → Prop} {v : Value} {w' : World} (hg : Good F (it :: σ) w) (h : Out (both F (fun k => k ∈ it.own)) σ w post v w') : Out F (it :: σ) w (fun a s => ∃ s', s = it :: s' ∧ post a s') v w' := by
  obtain ⟨av, s, h1, h2, h3, h4, h5⟩ := h
  have hnd := hg.nodup
  rw [List.flatMap_cons, List.nodup_append] at hnd
  refine ⟨av, it :: s, ⟨s, rfl, h1⟩, ⟨fun k hk => h2.fr k (.inl hk), fun k hk => ?_, ?_, fun x hx => ?_⟩, h3.mono (fun k _ hk => own_cons.2 (.inr hk)), fun k hk hlt => ?_, ?_⟩
  · rcases own_cons.1 hk with hk | hk
    · exact ⟨h2.fr k (.inr hk), (hg.own k (own_cons.2 (.inl hk))).2⟩
    · exact ⟨(h2.own k hk).1, fun hF => (h2.own k hk).2 (.inl hF)⟩
  · rw [List.flatMap_cons, List.nodup_append]
    exact ⟨hnd.1, h2.nodup, fun a ha b hb hab => by subst hab; exact (h2.own a hb).2 (.inr ha)⟩
  · rcases List.mem_cons.1 hx with rfl | hx
    · refine x.keep (M := both F (Items.own (x :: σ))) (h3.mono (fun k _ hk => ⟨.inr (own_cons.2 (.inr hk)), fun hk' => hnd.2.2 k hk' k hk rfl⟩)) (fun k hlt hk => ?_) (hg.items x List.mem_cons_self)
      refine hk.imp id (fun hk => ?_)
      rcases own_cons.1 hk with hk | hk
      · exact own_cons.2 (.inl hk)
      · exact own_cons.2 (.inr (h4 k hk hlt))
    · rw [← both_cons]; exact h2.items x hx
  · rcases own_cons.1 hk with hk | hk
    · exact own_cons.2 (.inl hk)
    · exact own_cons.2 (.inr (h4 k hk hlt))
  · rw [← both_cons]; exact h5
theorem Loud.frame {o : Oper} {post : AV → Items → Prop} (h : Loud P o af σ post) : Loud P o af (it :: σ) (fun a s => ∃ s', s = it :: s' ∧ post a s') := by
  intro F w ev hg hx
  have h1 := h _ w ev (good_frame hg) (fun x hm => by rw [both_cons]; exact hx x hm)
  generalize (execOp ev o).run P w = r at h1
  cases r with
  | ok n w' =>
    cases n <;> simp only [Upon] at h1 ⊢ <;> try exact h1.elim
    case value v => exact out_frame hg h1
    case skip => exact out_frame hg h1
    case enter f args => exact h1.mono fun e w'' ⟨v, he, ho⟩ => ⟨v, he, out_frame hg ho⟩
    case row r args => exact h1.mono fun v w'' ho => out_frame hg ho
  | halt x w' => exact h1.elim
theorem Reads.frame {o : Oper} {av : AV} (h : Reads P o af σ av) : Reads P o af (it :: σ) av := by
  intro F w ev hg hx
  have h1 := h _ w ev (good_frame hg) (fun x hm => by rw [both_cons]; exact hx x hm)
  rwa [both_cons] at h1
theorem Loud.put {o oj : Oper} {post : AV → Items → Prop} (x : AV) (h : ∀ d, oj.dst = some d → d ∉ o.looksAt ops) (hq : Loud P o af σ post) : Loud P o (af.put oj.dst x) σ post :=
  fun F w ev hg hx => hq F w ev hg (fun y hy => by have := hx y hy; rwa [ev_put af x h y hy] at this)

/-- What is planned: an operation of some kind; a fresh variable. -/
inductive Ent where
  | op (kd i : Nat)
  | new (a : Nat) (d : Tmp) (t : TypeId) (c : List AV)
variable {kp : Items}
/-- In whatever order the things in use are told. -/
def PC (K : AF → Items → Prop) (af : AF) (σ : Items) : Prop := ∃ σ', σ'.Perm σ ∧ K af σ'
theorem PC.mk {K : AF → Items → Prop} (h : K af σ) : PC K af σ := ⟨σ, List.Perm.refl _, h⟩
theorem PC.perm {K : AF → Items → Prop} {τ : Items} (h : PC K af σ) (hp : σ.Perm τ) : PC K af τ := let ⟨σ', h1, h2⟩ := h; ⟨σ', h1.trans hp, h2⟩
theorem Has.perm {τ : Items} (h : Has kp σ) (hp : σ.Perm τ) : Has kp τ := fun it hi => hp.mem_iff.1 (h it hi)
def wpE (P : Program) (ops : Array Oper) (kp : Items) (K : AF → Items → Prop) : List Ent → AF → Items → Prop
  | [], af, σ => K af σ
  | .op kd i :: rest, af, σ => ∃ o, ops[i]? = some o ∧ ((Sat ops o af false ∧ (kd = 3 ∨ kd = 4 → Has kp σ) ∧ PC (wpE P ops kp K rest) (af.put o.dst undefA) σ) ∨ (Sat ops o af true ∧ opK P kp kd o af σ (PC (wpE P ops kp K rest))))
  | .new _ d t c :: rest, af, σ => ∀ b, PC (wpE P ops kp K rest) (af.put (some d) (pA b 0)) (boxI t b c :: σ)
def entOf (p : Nat × Nat) : Ent := .op p.1 p.2
def dropN (a : Nat) : List Ent → List Ent
  | [] => []
  | .op kd i :: es => .op kd i :: dropN a es
  | .new a' d t c :: es => bif Nat.beq a' a then es else .new a' d t c :: dropN a es
/-- The fresh variable a may come first. -/
def earlyB (ops : Array Oper) (a : Nat) : List Ent → Bool
  | [] => false
  | .op _ i :: es => (match ops[a]?, ops[i]? with | some oa, some oi => oa.apart ops oi | _, _ => false) && earlyB ops a es
  | .new a' _ _ _ :: es => Nat.beq a' a || ((match ops[a]?, ops[a']? with | some oa, some oi => oa.apart ops oi | _, _ => false) && earlyB ops a es)
/-- The fresh variables are what they are said to be. -/
def NewOK (P : Program) (ops : Array Oper) (es : List Ent) : Prop :=
  ∀ a d t c, Ent.new a d t c ∈ es → ∃ ty pos after z, ops[a]? = some ⟨some d, .alloc t, ty, pos, after, none⟩ ∧ (P.info? t).bind (·.zero) = some z ∧ LEs (z.cells.toList.map AV.exact) c
def findN (a : Nat) : List Ent → Option (Tmp × TypeId × List AV)
  | [] => none
  | .op _ _ :: es => findN a es
  | .new a' d t c :: es => bif Nat.beq a' a then some (d, t, c) else findN a es
theorem opK_early {kd : Nat} {o oa : Oper} {u : AV} {K K' : AF → Items → Prop} (hap : oa.apart ops o = true)
    (hK : ∀ x σ, K (af.put o.dst x) σ → K' ((af.put oa.dst u).put o.dst x) (it :: σ)) (h : opK P kp kd o af σ K) : opK P kp kd o (af.put oa.dst u) (it :: σ) K' := by
  obtain ⟨h1, h2, h3⟩ := Oper.apart_spec hap
  have hB : ∀ {J J' : AF → Items → Prop}, (∀ x σ, J (af.put o.dst x) σ → J' ((af.put oa.dst u).put o.dst x) (it :: σ)) → opB P o af σ J → opB P o (af.put oa.dst u) (it :: σ) J' := fun hJ ⟨post, g1, g2⟩ =>
    ⟨_, (g1.put u h1).frame, fun a s ⟨s', e, hp⟩ => by subst e; exact hJ a s' (g2 a s' hp)⟩
  unfold opK at *
  split at h
  · exact hB (fun x σ ⟨hk, hh⟩ => ⟨fun y hy => List.mem_cons_of_mem _ (hk y hy), hK x σ hh⟩) h
  · obtain ⟨h0, a, g1, g2⟩ := h
    exact ⟨fun y hy => List.mem_cons_of_mem _ (h0 y hy), a, fun σ hk => (g1 σ hk).put u h1, hK a σ g2⟩
  · obtain ⟨a, g1, g2⟩ := h
    exact ⟨a, g1.put u h1, hK a σ g2⟩
  · obtain ⟨a, g1, g2⟩ := h
    exact ⟨a, (g1.put u h1).frame, hK a σ g2⟩
  · exact hB hK h
theorem early {K : AF → Items → Prop} {a : Nat} {d : Tmp} {t : TypeId} {c : List AV} {oa : Oper} (ha : ops[a]? = some oa) (hd : oa.dst = some d) : ∀ {es : List Ent} {af : AF} {σ : Items}, NewOK P ops es → earlyB ops a es = true → findN a es = some (d, t, c) → wpE P ops kp K es af σ →
    ∀ b, PC (wpE P ops kp K (dropN a es)) (af.put oa.dst (pA b 0)) (boxI t b c :: σ)
  | [], _, _, _, h, _, _ => by cases h
  | .new a' d' t' c' :: es, af, σ, hN, h, hf, hw => by
    intro b
    cases hb : Nat.beq a' a with
    | true =>
      rw [findN, hb] at hf
      injection hf with hf
      injection hf with e1 hf
      injection hf with e2 e3
      subst e1 e2 e3
      rw [dropN, hb, hd]
      exact hw b
    | false =>
      rw [findN, hb] at hf
      simp only [earlyB, hb, Bool.false_or, Bool.and_eq_true] at h
      obtain ⟨hap, he⟩ := h
      obtain ⟨ty, pos, after, z, h0, _⟩ := hN a' d' t' c' List.mem_cons_self
      simp only [ha, h0] at hap
      obtain ⟨h1, h2, h3⟩ := Oper.apart_spec hap
      rw [dropN, hb]
      refine PC.mk (fun b' => ?_)
      obtain ⟨σ', p', hw'⟩ := hw b'
      have ih := early ha hd (es := es) (fun a d t c hm => hN a d t c (List.mem_cons_of_mem _ hm)) he hf hw' b
      rw [AF.put_comm af (pA b 0) (pA b' 0) h2]
      exact ih.perm ((p'.cons _).trans (List.Perm.swap _ _ _))
  | .op kd i :: es, af, σ, hN, h, hf, hw => by
    intro b
    simp only [earlyB, Bool.and_eq_true] at h
    obtain ⟨hap, he⟩ := h
    obtain ⟨o, h0, hw⟩ := hw
    simp only [ha, h0] at hap
    obtain ⟨h1, h2, h3⟩ := Oper.apart_spec hap
    have ih := fun (x : AV) (σ' : Items) (hh : wpE P ops kp K es (af.put o.dst x) σ') => early ha hd (es := es) (fun a d t c hm => hN a d t c (List.mem_cons_of_mem _ hm)) he hf hh b
    have ih' : ∀ x σ', PC (wpE P ops kp K es) (af.put o.dst x) σ' → PC (wpE P ops kp K (dropN a es)) ((af.put oa.dst (pA b 0)).put o.dst x) (boxI t b c :: σ') := fun x σ' ⟨τ, pt, hh⟩ => by
      rw [AF.put_comm af (pA b 0) x h2]; exact (ih x τ hh).perm (pt.cons _)
    refine PC.mk ⟨o, h0, ?_⟩
    rcases hw with ⟨g1, g2, g3⟩ | ⟨g1, g2⟩
    · exact .inl ⟨(Sat.put_iff _ h1).2 g1, fun hk => fun y hy => List.mem_cons_of_mem _ (g2 hk y hy), ih' _ _ g3⟩
    · exact .inr ⟨(Sat.put_iff _ h1).2 g1, opK_early hap ih' g2⟩

/-! ### The check, and the walk -/
theorem YieldsK.perm {kd : Nat} {o : Oper} {av : AV} {τ : Items} (hp : σ.Perm τ) (h : YieldsK P ops kp kd σ o av af) : YieldsK P ops kp kd τ o av af := by
  unfold YieldsK at *
  split at h
  · exact h
  · exact ⟨h.1, h.2.perm hp⟩
  · exact h.imp id (fun ⟨h1, h2⟩ => ⟨h1, h2.perm hp.symm⟩)
variable {ks : List KFr} {QA : Exit → AF → Items → Prop}
theorem NewOK.nil : NewOK P ops [] := fun _ _ _ _ h => by cases h
theorem NewOK.one {kd i : Nat} {es : List Ent} (h : NewOK P ops es) : NewOK P ops (.op kd i :: es) := fun a d t c hm => by
  rcases List.mem_cons.1 hm with e | hm
  · cases e
  · exact h a d t c hm
theorem NewOK.many {es rest : List Ent} (l : List (Nat × Nat)) (he : es = l.map entOf ++ rest) (h : NewOK P ops rest) : NewOK P ops es := by
  subst he
  induction l with
  | nil => exact h
  | cons p l ih => exact ih.one
theorem NewOK.fresh {a : Nat} {d : Tmp} {t : TypeId} {c : List AV} {es : List Ent} {ty : TypeId} {pos : String} {after : Array Edge} {z : Value} (h0 : ops[a]? = some ⟨some d, .alloc t, ty, pos, after, none⟩) (hz : (P.info? t).bind (·.zero) = some z) (hc : LEs (z.cells.toList.map AV.exact) c) (h : NewOK P ops es) : NewOK P ops (.new a d t c :: es) := fun a' d' t' c' hm => by
  rcases List.mem_cons.1 hm with e | hm
  · injection e with e1 e2 e3 e4
    subst e1 e2 e3 e4
    exact ⟨ty, pos, after, z, h0, hz, hc⟩
  · exact h a' d' t' c' hm
end
end Go.Proofs.YtdppkpiagdaigaaGreatDoor
/- Rows in use that lie anywhere within their block, with whatever spare. -/
namespace Go.Proofs.YtdppkpiagdaigaaGreatDoor
open Go.RowKit

/-- The slice value v, of n elements of size cells, owns its block; its cells are xs. -/
def ownsO (w : World) (e : TypeId) (size : Nat) (v : Value) (n : Nat) (xs : List Value) : Prop :=
  xs.length = n * size ∧
  ((v = .slice none 0 0 ∧ n = 0) ∨
   ∃ g o cap cur, v = .slice (some ⟨g, o, none⟩) n cap ∧ w.heap[g]? = some (.cells cur e (0, 0)) ∧ n ≤ cap ∧ cap ≤ maxLen ∧ o + cap * size ≤ cur.size ∧ (cur.toList.drop o).take (n * size) = xs)
theorem ownsO.cells {w : World} {e : TypeId} {size n g o l c : Nat} {xs : List Value} (h : ownsO w e size (.slice (some ⟨g, o, none⟩) l c) n xs) : ∀ j u, xs[j]? = some u → w.cell? ⟨g, o + j, none⟩ = some u := by
  intro j u hu
  rcases h.2 with ⟨h, _⟩ | ⟨g', o', cap, cur, hv, hg, _, _, _, ht⟩
  · cases h
  · injection hv with q1 q2 q3
    injection q1 with q1
    injection q1 with q1 q4
    subst q1 q4
    rw [cell_of_row w g (o + j) cur e (0, 0) hg]
    rw [← ht, List.getElem?_take] at hu
    split at hu
    · rw [List.getElem?_drop] at hu; simpa using hu
    · cases hu
theorem ownsO.lt {w : World} {e : TypeId} {size n : Nat} {v : Value} {xs : List Value} (h : ownsO w e size v n xs) : ∀ k, v.ownBlock = some k → k < w.heap.size := by
  intro k hk
  rcases h.2 with ⟨rfl, _⟩ | ⟨g, o, cap, cur, rfl, hg, _⟩
  · simp [Value.ownBlock] at hk
  · simp [Value.ownBlock] at hk
    subst hk
    exact (Array.getElem?_eq_some_iff.1 hg).1
section
variable {P : Program} {E : Env} {af : AF} {σ ρ : Items} {d : Option Tmp} {ty t : TypeId} {pos : String} {after : Array Edge} {g : Option (Nat × Bool)} {α : Type} {n : Nat} {enc : α → List AV} {xs ys : List α} {v : Value}
/-! ### Appending -/
/-! ### Only the length is remembered -/
/-! ### append(l[:i:i], l[j:]..) -/
end
end Go.Proofs.YtdppkpiagdaigaaGreatDoor
/- slices.SortFunc on a row in use, by the shelf's contract. -/
namespace Go.Proofs.YtdppkpiagdaigaaGreatDoor
open Go.RowKit Go.Sort

theorem keeps_grow {w w' : World} (h : Keeps noB w w') : ∃ q os, w' = grow (w.drewN q) os := by
  obtain ⟨h1, h2, h3, h4, h5, h6⟩ := h
  refine ⟨w'.drawn - w.drawn, w'.heap.extract w.heap.size w'.heap.size, ?_⟩
  have hheap : w'.heap = w.heap ++ w'.heap.extract w.heap.size w'.heap.size := by
    apply Array.ext_getElem?
    intro i
    by_cases hi : i < w.heap.size
    · rw [Array.getElem?_append_left hi]
      exact h6 i hi (fun hf => hf)
    · rw [Array.getElem?_append_right (by omega), Array.getElem?_extract]
      by_cases h7 : i < w'.heap.size
      · rw [if_pos (by omega)]; congr 1; omega
      · rw [if_neg (by omega), Array.getElem?_eq_none (by omega)]
  have hd : w'.drawn = w.drawn + (w'.drawn - w.drawn) := by omega
  cases w with
  | mk hp tp dr os out =>
    cases w' with
    | mk hp' tp' dr' os' out' =>
      simp only at h1 h2 h3 hheap hd
      subst h1 h2 h3
      unfold grow World.drewN
      simp only [World.mk.injEq, true_and, and_true]
      exact ⟨hheap, hd⟩

theorem fit_ex_eq {M : BSet} {w : World} : ∀ {l us : List Value}, Fit M w (l.map AV.exact) us → us = l
  | [], [], _ => rfl
  | a :: l, u :: us, h => by
    obtain ⟨h1, h2⟩ := h
    have h1' : u = a := h1
    rw [h1', fit_ex_eq h2]
theorem ex_fit_ex {M : BSet} {w : World} : ∀ (l : List Value), Fit M w (l.map AV.exact) l
  | [] => trivial
  | a :: l => ⟨rfl, ex_fit_ex l⟩

section
variable {α : Type} [Inhabited α] {enc : α → List Value} {k : Nat}
end
end Go.Proofs.YtdppkpiagdaigaaGreatDoor
/- slices.Sort and slices.SortFunc on a row in use of one cell an element, by the shelf's contracts. -/
namespace Go.Proofs.YtdppkpiagdaigaaGreatDoor
open Go.RowKit Go.Sort

theorem cmpLays1_pure {P : Program} {g : Nat} {α : Type} [Inhabited α] {e : α → Value} {cf : α → α → Int} {blk off size : Nat} {w : World}
    (h : ∀ x y, Pure P g [.exact (e x), .exact (e y)] (.exact (.int .i64 (cf x y)))) : CmpLays1 P g #[] e cf blk off size w := fun m os dk hs x y => by
  have := h x y noB (sortWorld e w blk off m dk os) [e x, e y] (fun _ hk => hk.elim) ⟨rfl, rfl, trivial⟩
  exact this.mono fun e w' ⟨v, e1, hk, e3⟩ => ⟨by rw [e1]; exact congrArg _ e3, keeps_grow hk⟩

theorem CmpOk.swo {α : Type} {c : α → α → Option Int} (h : CmpOk c) : SWO (ltOf (cfOf c)) := ⟨h.irrefl, h.trans, h.ntrans⟩
section
variable {α : Type} [Inhabited α] {e : α → Value} {P : Program}
theorem take_putCells1 (D : Array α) (cur : Array Value) (h : D.size ≤ cur.size) : (putCells e 0 D cur).toList.take D.size = D.toList.map e := by
  apply List.ext_getElem?
  intro j
  by_cases hj : j < D.size
  · rw [List.getElem?_take_of_lt hj, Array.getElem?_toList]
    simp [putCells, hj, show j < cur.size by omega]
  · rw [List.getElem?_take_eq_none (by omega), List.getElem?_eq_none (by simp; omega)]
/-- A call that sorts a row in use. -/
theorem sort1_fun {f : Nat} {rs : List Value} {S : List α → List α} (hS : ∀ zs, (S zs).length = zs.length) {encA : α → List AV} (hA : ∀ x, encA x = [.exact (e x)])
    (hC : ∀ (b c : Nat) (zs : List α) (w : World), zs ≠ [] → Go.Sort.Holds e w b 0 zs.toArray → b < w.heap.size → zs.length < 4611686018427387904 →
      Calls P f (.slice (some ⟨b, 0, none⟩) zs.length c :: rs).toArray w fun x w' => x = .returned (.tuple #[]) ∧ ∃ n os, w' = sortWorld e w b 0 n (S zs).toArray os)
    (hN : ∀ (p : Option Addr) (c : Nat) (w : World), Calls P f (.slice p 0 c :: rs).toArray w fun x w' => x = .returned (.tuple #[]) ∧ w' = w)
    (v : Value) (xs : List α) (hl : xs.length < 4611686018427387904) (t : TypeId) :
    Fun P f (.exact v :: rs.map AV.exact) [vecT P t 1 encA v xs] (fun a s => a = .tup [] ∧ s = [vecT P t 1 encA v (S xs)]) := by
  intro F w vs hg hfit
  have hS0 : S [] = [] := List.length_eq_zero_iff.1 (hS [])
  match vs, hfit with
  | v' :: us, ⟨e1, e2⟩ =>
  have e3 : us = rs := fit_ex_eq e2
  have e4 : v' = v := e1
  clear e1 e2
  subst e3 e4
  by_cases hx : xs = []
  · subst hx
    obtain ⟨us, hown, hf⟩ := hg.items _ List.mem_cons_self
    have hv : ∃ p cap, v' = .slice p 0 cap := by
      rcases hown.2 with ⟨rfl, _⟩ | ⟨q, cap, cur, rfl, _⟩
      · exact ⟨none, 0, rfl⟩
      · exact ⟨_, cap, rfl⟩
    obtain ⟨p, cap, rfl⟩ := hv
    refine (hN p cap w).mono fun x w' ⟨he, hw⟩ => ?_
    subst hw
    refine ⟨_, he, _, _, ⟨rfl, rfl⟩, ?_, (Keeps.refl noB w').mono (fun _ _ h => h.elim), ?_, ⟨[], rfl, trivial⟩⟩
    · rw [hS0]; exact hg
    · rw [hS0]; exact fun _ h _ => h
  · obtain ⟨b, c, cur, us, hv, hb, hnc, hcm, hcs, htk, hf⟩ := vec_cells (hg.items _ List.mem_cons_self) hx
    subst hv
    have hflat : ∀ ys : List α, ys.flatMap encA = (ys.map e).map AV.exact := by
      intro ys
      induction ys with
      | nil => rfl
      | cons y ys ih => rw [List.flatMap_cons, List.map_cons, List.map_cons, ih, hA]; rfl
    rw [hflat] at hf
    have hus := fit_ex_eq hf
    subst hus
    rw [Nat.mul_one] at htk hcs
    have hH : Go.Sort.Holds e w b 0 xs.toArray := by
      intro j hj
      have hj' : j < xs.length := by simpa using hj
      constructor
      · rw [cell_of_row _ b _ _ _ (0, 0) hb, Nat.zero_add]
        have e4 : (cur.toList.take xs.length)[j]? = (xs.map e)[j]? := by rw [htk]
        rw [List.getElem?_take_of_lt hj', List.getElem?_map, List.getElem?_eq_getElem hj'] at e4
        rw [getElem!_pos xs.toArray j (by simpa using hj')]
        simpa using e4
      · simp [World.frozen?, hb]
    have hblt := (Array.getElem?_eq_some_iff.1 hb).1
    refine (hC b c xs w hx hH hblt hl).mono fun x w' ⟨he, n, os, hw⟩ => ?_
    generalize hys : S xs = ys at hw ⊢
    have hyl : ys.length = xs.length := by rw [← hys]; exact hS xs
    subst hw
    have hheap : (sortWorld e w b 0 n ys.toArray os).heap[b]? = some (.cells (putCells e 0 ys.toArray cur) (elemOfT P t) (0, 0)) := by
      unfold sortWorld
      rw [heap_grow_old _ _ (by simpa using hblt)]
      simp [putRow, mapBlock, Sort.ahead, Array.getElem?_modify, hb, onCells]
    have hkp : Keeps (fun q => q ∈ (vecT P t 1 encA (.slice (some ⟨b, 0, none⟩) xs.length c) xs).own) w (sortWorld e w b 0 n ys.toArray os) := by
      refine ⟨rfl, rfl, rfl, Nat.le_add_right _ _, ?_, fun q hlt hn => ?_⟩
      · simp [sortWorld, grow]
      · have hne : q ≠ b := fun e => hn (by simp [vecT, vecI, Value.ownBlock, e])
        unfold sortWorld
        rw [heap_grow_old _ _ (by simpa using hlt)]
        simp [putRow, mapBlock, Sort.ahead, Array.getElem?_modify, Ne.symm hne]
    have hown : (sortWorld e w b 0 n ys.toArray os).ownsRow 0 (elemOfT P t) 1 (.slice (some ⟨b, 0, none⟩) xs.length c) ys.length (ys.map e) := by
      refine ⟨by simp, .inr ⟨b, c, _, by rw [hyl], Nat.zero_le _, hheap, by rw [hyl]; exact hnc, hcm, by simp [putCells, hcs], ?_⟩⟩
      have := take_putCells1 (e := e) ys.toArray cur (by simp [hyl]; omega)
      simpa using this
    obtain ⟨g1, g2, g3⟩ := good_head (it' := vecT P t 1 encA (.slice (some ⟨b, 0, none⟩) xs.length c) ys) hg hkp (fun q hq => ⟨by simp [vecT, vecI, Value.ownBlock] at hq; subst hq; simpa [sortWorld, grow] using Nat.lt_of_lt_of_le hblt (Nat.le_add_right _ _), fun _ => hq⟩) (by simp [vecT, vecI, Value.ownBlock])
      (fun hkk hMM => ⟨ys.map e, hown, by rw [hflat]; exact ex_fit_ex _⟩)
    exact ⟨_, he, _, _, ⟨rfl, rfl⟩, g1, g2, g3, ⟨[], rfl, trivial⟩⟩
theorem sortFunc1_fun {ρ : Go.Shelf.Ren} (L : SlLaysF.n6 P ρ) (L0 : SlLaysF0.n6 P ρ) {encA : α → List AV} (hA : ∀ x, encA x = [.exact (e x)]) (h1 : OneCell e) (cf : α → α → Int) (hO : SWO (ltOf cf)) (hT : ∀ x y, (ltOf cf) x y = false → (ltOf cf) y x = false → x = y) (g : Nat) (eg : ∀ args w, (callFunc g args).run P w = .ok (.enter g args) w)
    (hcmp : ∀ x y, Pure P g [.exact (e x), .exact (e y)] (.exact (.int .i64 (cf x y)))) (v : Value) (xs : List α) (hl : xs.length < 4611686018427387904) (t : TypeId) :
    Fun P (ρ.f 6) [.exact v, .exact (.func (.func g) #[] #[])] [vecT P t 1 encA v xs] (fun a s => a = .tup [] ∧ s = [vecT P t 1 encA v (xs.mergeSort fun x y => !(ltOf cf) y x)]) :=
  sort1_fun (rs := [.func (.func g) #[] #[]]) (S := fun zs => zs.mergeSort fun x y => !(ltOf cf) y x) (fun _ => List.length_mergeSort _) hA
    (fun b c zs w _ hH hb hz => by
      have := Any.slices_SortFunc_total L e h1 cf hO g #[] b 0 c zs.toArray w eg (cmpLays1_pure hcmp) hH hb (by simpa using hz) hT
      simpa using this) (fun p c w => AnyF.slices_SortFunc_none L0 p c (.func (.func g) #[] #[]) w) v xs hl t
theorem m_sortby1_ok {ρ : Go.Shelf.Ren} (L : SlLaysF.n6 P ρ) (L0 : SlLaysF0.n6 P ρ) {encA : α → List AV} (hA : ∀ x, encA x = [.exact (e x)]) (h1 : OneCell e) (g : Nat) (eg : ∀ args w, (callFunc g args).run P w = .ok (.enter g args) w) (t : TypeId) {c : α → α → Option Int}
    (hc : ∀ x y r, c x y = some r → Pure P g [.exact (e x), .exact (e y)] (.exact (.int .i64 r))) {v : Value} (xs r : List α) (h : m_sortby c xs = some r) :
    Fun P (ρ.f 6) [.exact v, .exact (.func (.func g) #[] #[])] [vecT P t 1 encA v xs] (fun a s => a = .tup [] ∧ s = [vecT P t 1 encA v r]) := by
  obtain ⟨hl, ho, rfl⟩ := m_sortby_some h
  exact sortFunc1_fun L L0 hA h1 (cfOf c) ho.swo ho.total g eg (fun x y => by
    obtain ⟨r, hr⟩ := ho.all x y
    have : cfOf c x y = r := by unfold cfOf; rw [hr]; rfl
    rw [this]; exact hc x y r hr) v xs hl t
end
end Go.Proofs.YtdppkpiagdaigaaGreatDoor
/- No step of the machine draws back: the tape's place never falls from a call to its return. -/
namespace Go.Proofs.YtdppkpiagdaigaaGreatDoor

def resW {α : Type} : Result α → World
  | .ok _ w => w
  | .halt _ w => w
theorem runW_drawn {P : Program} {α : Type} : ∀ (m : Sem α) (w : World), w.drawn ≤ (resW (m.run P w)).drawn := by
  intro m
  induction m with
  | pure a => intro w; exact Nat.le_refl _
  | halt e => intro w; exact Nat.le_refl _
  | load m a k ih =>
    intro w
    rw [Sem.run]
    split
    · exact ih _ _
    · split
      · exact ih _ _
      · exact Nat.le_refl _
  | store m a v k ih =>
    intro w
    have key : w.drawn ≤ (resW (match w.cell? a with | some _ => if w.frozen? a then Result.halt (.unsupported (.unsafePointer "a write to bytes that a string shares")) w else k.run P (w.setCell a v) | none => match w.farStore P a v (m == Mode.atomic) with | .ok (w, _) => k.run P w | .error h => .halt h w)).drawn := by
      split
      · split
        · exact Nat.le_refl _
        · exact (ih (w.setCell a v) : (w.setCell a v).drawn ≤ _)
      · split
        · rename_i h1; exact Nat.le_trans (far_drawn h1) (ih _)
        · exact Nat.le_refl _
    cases v
    all_goals first | exact key | (simp only [Sem.run]; first | exact key | exact Nat.le_refl _)
  | new o k ih =>
    intro w
    rw [Sem.run]
    exact (ih _ { w with heap := w.heap.push o } : ({ w with heap := w.heap.push o } : World).drawn ≤ _)
  | shape r k ih => intro w; rw [Sem.run]; exact ih _ _
  | freeze a n k ih =>
    intro w
    rw [Sem.run]
    have := ih (w.freeze a n)
    have e : (w.freeze a n).drawn = w.drawn := by unfold World.freeze; split <;> rfl
    rwa [e] at this
  | frozen a k ih => intro w; rw [Sem.run]; exact ih _ _
  | getObj r k ih =>
    intro w
    rw [Sem.run]
    split
    · exact Nat.le_refl _
    · exact ih _ _
    · exact Nat.le_refl _
  | setObj r o k ih =>
    intro w
    rw [Sem.run]
    split
    · exact Nat.le_refl _
    · exact (ih { w with heap := w.heap.setIfInBounds r o } : ({ w with heap := w.heap.setIfInBounds r o } : World).drawn ≤ _)
    · exact Nat.le_refl _
  | choose q k ih =>
    intro w
    rw [Sem.run]
    split
    · exact ih _ _
    · exact Nat.le_trans (Nat.le_succ _) (ih _ { w with drawn := w.drawn + 1 })
  | sys c k ih => intro w; rw [Sem.run]; exact Nat.le_trans (sys_drawn w c) (ih _ _)
  | program k ih => intro w; rw [Sem.run]; exact ih _ _
  | mark m k ih => intro w; rw [Sem.run]; exact ih _
theorem runW_le {P : Program} {α : Type} {m : Sem α} {w : World} {r : Result α} (h : m.run P w = r) : w.drawn ≤ (resW r).drawn := h ▸ runW_drawn m w

/-! ### Steps of a goroutine -/
/-- The world of the step is not behind w; an ended program is of no interest. -/
def GW (w : World) : GStep → Prop
  | .go _ w' _ => w.drawn ≤ w'.drawn
  | .comm _ _ _ _ w' _ => w.drawn ≤ w'.drawn
  | .spawn _ _ w' _ => w.drawn ≤ w'.drawn
  | .count _ w' _ => w.drawn ≤ w'.drawn
  | .timer _ _ w' _ => w.drawn ≤ w'.drawn
  | .alone _ _ w' _ => w.drawn ≤ w'.drawn
  | .newcoro _ _ _ w' _ => w.drawn ≤ w'.drawn
  | .coroswitch _ _ _ w' _ => w.drawn ≤ w'.drawn
  | .collect _ w' _ => w.drawn ≤ w'.drawn
  | .watch _ w' _ => w.drawn ≤ w'.drawn
  | .ended _ _ _ => True
theorem GW.after {w : World} {es : Array Event} {s : GStep} (h : GW w s) : GW w (GStep.after es s) := by cases s <;> exact h
theorem GW.trans {w w' : World} {s : GStep} (h : w.drawn ≤ w'.drawn) (h' : GW w' s) : GW w s := by
  cases s <;> first | exact trivial | exact Nat.le_trans h h'
theorem ite_GW {w : World} {c : Prop} [Decidable c] {a b : GStep} (ha : GW w a) (hb : GW w b) : GW w (if c then a else b) := by split; exact ha; exact hb
theorem endWith_GW (w : World) (fd : Nat) (t : ByteArray) (o : Outcome) : GW w (endWith w fd t o) := by
  unfold endWith
  dsimp only
  repeat' split
  all_goals exact trivial
theorem endThrow_GW (fr : Frame) (m : String) (w : World) : GW w (endThrow fr m w) := Nat.le_refl _
theorem dieOf_GW (fr : Frame) (a : List ByteArray) (m : String) (b : Bool) (w : World) : GW w (dieOf fr a m b w) := Nat.le_refl _
theorem endPrinting_GW (p : Program) (fr : Frame) (v : Value) (w : World) : GW w (endPrinting p fr v w) := by
  unfold endPrinting
  dsimp only
  split
  · exact endThrow_GW _ _ _
  · exact trivial
theorem endFatal_GW (p : Program) (fr : Frame) (cs : List Frame) (d : Option Dying) (m : String) (w : World) : GW w (endFatal p fr cs d m w) := by
  unfold endFatal
  dsimp only
  split
  · rename_i h; exact GW.trans (runW_le h) (dieOf_GW _ _ _ _ _)
  · exact trivial
  · exact trivial
theorem writeOn_GW (p : Program) (fr : Frame) (d : Dying) (f : Fatal) (w : World) : GW w (writeOn p fr d f w) := by
  unfold writeOn
  dsimp only
  split
  · exact trivial
  · simp only [Sem.runT_eq]
    split <;> rename_i h
    · simp only [Prod.mk.injEq] at h; exact runW_le h.1
    · simp only [Prod.mk.injEq] at h; exact runW_le h.1
    · exact trivial
    · exact trivial
theorem die_GW (p : Program) (fr : Frame) (d : Dying) (w : World) : GW w (die p fr d w) := by
  unfold die
  split
  · exact writeOn_GW _ _ _ _ _
  · split
    · split
      · exact Nat.le_refl _
      · exact endWith_GW _ _ _ _
    · dsimp only
      split
      · exact Nat.le_refl _
      · split <;> rename_i h
        · exact runW_le h
        · exact trivial
      · simp only [Sem.runT_eq]
        refine GW.after ?_
        split <;> rename_i h
        · exact runW_le h
        · exact runW_le h
        · exact trivial
        · exact GW.trans (runW_le h) (endPrinting_GW _ _ _ _)
        · exact trivial
      · exact trivial
theorem doReturn_GW (p : Program) (main : Bool) (fr : Frame) (cs : List Frame) (d : Option Dying) (v : Value) (w : World) : GW w (doReturn p main fr cs d v w) := by
  unfold doReturn
  repeat' split
  all_goals first | exact Nat.le_refl _ | exact trivial
theorem callDeferred_GW (p : Program) (fr : Frame) (cs : List Frame) (dy : Option Dying) (d : Deferred) (w : World) : GW w (callDeferred p fr cs dy d w) := by
  unfold callDeferred
  refine ite_GW trivial ?_
  · simp only [Sem.runT_eq]
    refine GW.after ?_
    split <;> rename_i h
    all_goals first | exact trivial | exact runW_le h | exact GW.trans (runW_le h) (endFatal_GW _ _ _ _ _ _) | exact GW.trans (runW_le h) (endThrow_GW _ _ _) | (split <;> exact runW_le h)
theorem unwind_GW (p : Program) (main : Bool) (fr : Frame) (cs : List Frame) (dy : Option Dying) (w : World) : GW w (unwind p main fr cs dy w) := by
  unfold unwind
  split
  · simp only [Sem.runT_eq]
    refine GW.after ?_
    split <;> rename_i h
    · exact runW_le h
    · exact trivial
  · exact callDeferred_GW _ _ _ _ _ _
  · split
    · exact trivial
    · split
      · exact trivial
      · split
        · exact Nat.le_refl _
        · split
          · split
            · exact Nat.le_refl _
            · split <;> rename_i h
              · exact runW_le h
              · exact trivial
              · exact trivial
          · split
            · exact endPrinting_GW _ _ _ _
            · exact trivial
    · split
      · exact doReturn_GW _ _ _ _ _ _ _
      · simp only [Sem.runT_eq]
        refine GW.after ?_
        split <;> rename_i h
        · exact GW.trans (runW_le h) (doReturn_GW _ _ _ _ _ _ _)
        · exact trivial
        · exact trivial
theorem early_GW (p : Program) (fr : Frame) (cs : List Frame) (dy : Option Dying) (g : Nat) (w : World) : GW w (Go.early p fr cs dy g w) := by
  have notYet : ∀ w : World, GW w (match w.heap[g]? with
    | some (.pending c elem) =>
      .go { frame := fr, callers := cs, status := .running, dying := dy } { w with heap := w.heap.setIfInBounds g (.cells c elem) }
    | _ => .ended (.stuck "early: the variable does not wait" (fr.pos p)) w) := fun w => by
    split
    · exact Nat.le_refl _
    · exact trivial
  unfold Go.early
  dsimp only
  refine ite_GW (notYet w) ?_
  split
  · exact trivial
  · refine ite_GW (notYet w) (ite_GW (notYet w) ?_)
    split
    · exact trivial
    · exact Nat.le_refl _
    · exact trivial
    · exact notYet w
    · refine ite_GW (Nat.le_refl _) (ite_GW (notYet w) ?_)
      split <;> rename_i h
      · exact GW.trans (runW_le h) (notYet _)
      · exact runW_le h
      · exact trivial
theorem apply_GW (p : Program) (listen : Bool) (fr : Frame) (cs : List Frame) (dy : Option Dying) (s : Sem Next) (w : World) : GW w (stepG.apply p listen fr cs dy s w) := by
  unfold stepG.apply
  dsimp only
  refine GW.after ?_
  have e : (if listen = true then s.runT p w #[] else (s.run p w, #[])).1 = s.run p w := by split <;> simp
  rw [e]
  split <;> rename_i h
  all_goals first | exact trivial | exact runW_le h | exact GW.trans (runW_le h) (endFatal_GW _ _ _ _ _ _) | exact GW.trans (runW_le h) (endThrow_GW _ _ _) | exact GW.trans (runW_le h) (early_GW _ _ _ _ _ _) | exact ite_GW (GW.trans (runW_le h) (endThrow_GW _ _ _)) (runW_le h) | (split <;> exact runW_le h)
theorem oper_GW (p : Program) (listen : Bool) (fr : Frame) (cs : List Frame) (dy : Option Dying) (w : World) : GW w (stepG.oper p listen fr cs dy w) := by
  unfold stepG.oper
  split
  · exact trivial
  · split <;> exact apply_GW _ _ _ _ _ _ _
theorem exec_GW (p : Program) (main listen : Bool) (fr : Frame) (cs : List Frame) (dy : Option Dying) (w : World) : GW w (stepG.exec p main listen fr cs dy w) := by
  have fin : ∀ {α : Type} (m : Sem α) (w' : World) (r : Result α) (s : GStep), m.run p w = r → resW r = w' → GW w' s → GW w s := fun m w' r s h e hs => GW.trans (e ▸ runW_le h) hs
  have leave : ∀ (c : Prop) [Decidable c] (jump : Option Code) (ro : Option Nat), GW w (match ro with
      | none => if c then .go { frame := { fr with mode := .returning }, callers := cs, status := .running, dying := dy } w else .ended (.stuck "exit, goto: no such block or label" (fr.pos p)) w
      | some l =>
        GStep.after (seen p fr.fn ((Instr.endRound l jump).runT p w #[]).2) <| match ((Instr.endRound l jump).runT p w #[]).1 with
        | .ok v w => doReturn p main fr cs dy v w
        | .halt _ w => .ended (.stuck "range over a function: no such loop" (fr.pos p)) w) := fun c _ jump ro => by
    cases ro with
    | none =>
      refine ite_GW ?_ ?_
      · exact Nat.le_refl _
      · exact trivial
    | some l =>
      simp only [Sem.runT_eq]
      refine GW.after ?_
      split <;> rename_i h
      · exact GW.trans (runW_le h) (doReturn_GW _ _ _ _ _ _ _)
      · exact trivial
  unfold stepG.exec
  dsimp only
  split
  · exact leave _ _ _
  · exact leave _ _ _
  · exact Nat.le_refl _
  · exact Nat.le_refl _
  · exact Nat.le_refl _
  · exact Nat.le_refl _
  · exact Nat.le_refl _
  · split
    · exact Nat.le_refl _
    · exact trivial
  · exact Nat.le_refl _
  · exact Nat.le_refl _
  · exact Nat.le_refl _
  · exact Nat.le_refl _
  · generalize exitTo _ _ = o
    cases o with
    | none => exact leave _ _ _
    | some x => exact Nat.le_refl _
  · generalize gotoIn _ _ = o
    cases o with
    | none => exact leave _ _ _
    | some x => exact Nat.le_refl _
  · simp only [Sem.runT_eq]
    refine GW.after ?_
    split <;> rename_i h
    · exact GW.trans (runW_le h) (apply_GW _ _ _ _ _ _ _)
    · exact trivial
  · exact trivial
  · exact apply_GW _ _ _ _ _ _ _
  · simp only [Sem.runT_eq]
    refine GW.after ?_
    split <;> rename_i h
    · exact runW_le h
    · exact runW_le h
    · exact trivial
  · exact trivial
  · exact apply_GW _ _ _ _ _ _ _
  · generalize Extern.next _ = o
    cases o with
    | none => exact trivial
    | some e => exact apply_GW _ _ _ _ _ _ _
  · refine ite_GW ?_ ?_
    · exact Nat.le_refl _
    · split <;> rename_i h
      · exact runW_le h
      · exact trivial
  · exact Nat.le_refl _
  · refine ite_GW ?_ ?_
    · exact oper_GW _ _ _ _ _ _
    · exact Nat.le_refl _
theorem stepG_GW (p : Program) (main listen : Bool) (g : Goroutine) (w : World) : GW w (stepG p main g w listen) := by
  unfold stepG
  dsimp only
  split
  · exact die_GW _ _ _ _
  · exact exec_GW _ _ _ _ _ _ _
  · exact unwind_GW _ _ _ _ _ _

/-! ### Steps of the machine -/

/-! ### Steps of the machine -/
theorem waitingAt_drawn {rest : Rest} {cases : Array CommCase} {w w' : World} (h : waitingAt rest cases w = some w') : w.drawn ≤ w'.drawn := by
  unfold waitingAt at h
  split at h
  · split at h
    · cases h; exact Nat.le_refl _
    · cases h
  · cases h; exact Nat.le_refl _
theorem communicate_drawn (p : Program) (rest : Rest) (gs : Array Goroutine) (i : Nat) (g : Goroutine) (cases : Array CommCase) (blocking : Bool) (shape : CommShape) (w : World) (m' : Machine) (h : (communicate p rest gs i g cases blocking shape w).1 = .next m') : w.drawn ≤ m'.world.drawn := by
  unfold communicate at h
  simp only [] at h
  split at h
  · simp at h
  · split at h
    · split at h
      · split at h <;> rename_i hw
        · simp only [Stepped.next.injEq] at h; subst h; exact waitingAt_drawn hw
        · simp at h
      · simp only [Stepped.next.injEq] at h; subst h; exact Nat.le_refl _
    · split at h <;> rename_i hp
      · simp at h
      · have hd := runW_le hp
        repeat' split at h
        all_goals first
          | (simp at h; done)
          | (simp only [Stepped.next.injEq] at h; subst h; exact hd)
          | (rename_i hq; simp only [Stepped.next.injEq] at h; subst h; exact Nat.le_trans hd (runW_le hq))
          | (rename_i hq _; simp only [Stepped.next.injEq] at h; subst h; exact Nat.le_trans hd (runW_le hq))
          | (rename_i hq _ _; simp only [Stepped.next.injEq] at h; subst h; exact Nat.le_trans hd (runW_le hq))
          | (rename_i hq _ _ _; simp only [Stepped.next.injEq] at h; subst h; exact Nat.le_trans hd (runW_le hq))
          | (rename_i hq _ _ _ _; simp only [Stepped.next.injEq] at h; subst h; exact Nat.le_trans hd (runW_le hq))
          | (rename_i hq _ _ _ _ _; simp only [Stepped.next.injEq] at h; subst h; exact Nat.le_trans hd (runW_le hq))
          | (rename_i hq _ _ _ _ _ _; simp only [Stepped.next.injEq] at h; subst h; exact Nat.le_trans hd (runW_le hq))
theorem look_drawn (p : Program) (gs : Array Goroutine) (rest : Rest) (w : World) (m' : Machine) (h : look p gs rest w = .next m') : w.drawn ≤ m'.world.drawn := by
  unfold look at h
  simp only [] at h
  split at h
  · split at h
    · simp at h
    · split at h
      · simp at h
      · split at h <;> rename_i hp
        · simp only [Stepped.next.injEq] at h; subst h; exact runW_le hp
        · simp at h
        · simp at h
  · simp at h
theorem retime_drawn (m : Machine) (k : Nat) (t : Timer) (a b : Nat) : (retime m k t a b).2.world.drawn = m.world.drawn := by
  unfold retime drain
  dsimp only
  split
  · split <;> rfl
  · rfl
theorem opened_drawn {m m' : Machine} {var : Addr} (h : timerOp.opened m var = some m') : m'.world.drawn = m.world.drawn := by
  unfold timerOp.opened at h
  split at h
  · split at h
    · cases h; rfl
    · cases h
  · cases h; rfl
theorem named_drawn {m m' : Machine} {var : Addr} {f : Nat → Timer → Value × Machine} {v : Value} {n : Nat} (hf : ∀ k t, (f k t).2.world.drawn = n) (h : timerOp.named m var f = .ok (v, m')) : m'.world.drawn = n := by
  unfold timerOp.named at h
  split at h
  · simp only [Except.ok.injEq] at h
    rw [← hf _ _, h]
  · cases h
theorem timerOp_drawn (m m' : Machine) (op : TimerOp) (v : Value) (h : timerOp m op = .ok (v, m')) : m'.world.drawn = m.world.drawn := by
  unfold timerOp at h
  split at h
  · split at h
    · cases h; rfl
    · split at h
      · split at h
        · cases h
        · cases h; rfl
      · cases h
  · exact named_drawn (fun _ _ => retime_drawn _ _ _ _ _) h
  · split at h <;> rename_i ho
    · have := opened_drawn ho
      rw [← this]
      exact named_drawn (fun _ _ => retime_drawn _ _ _ _ _) h
    · cases h
  · cases h; rfl
theorem runT_drawn (p : Program) (m m' : Machine) (i : Nat) (b : Bool) (h : (runT p m i b).1 = .next m') : m.world.drawn ≤ m'.world.drawn := by
  simp only [runT] at h
  have hs := stepG_GW p (i == 0) b (m.gs.swapAt! i { (default : Goroutine) with status := .finished }).1 m.world
  revert hs h
  generalize m.gs.swapAt! _ _ = gg
  generalize stepG p _ gg.1 m.world b = s
  intro h hs
  cases s <;> simp only [] at h
  all_goals first
    | (simp at h; done)
    | (exact Nat.le_trans hs (communicate_drawn _ _ _ _ _ _ _ _ _ _ h))
    | (exact Nat.le_trans hs (look_drawn _ _ _ _ _ h))
    | (simp only [Stepped.next.injEq] at h; subst h; exact hs)
    | (repeat' first
        | (simp at h; done)
        | (simp only [Stepped.next.injEq] at h; subst h; exact hs)
        | (rename_i ht; simp only [Stepped.next.injEq] at h; subst h; have e := timerOp_drawn _ _ _ _ ht; exact Nat.le_trans hs (Nat.le_of_eq e.symm))
        | (rename_i ht; simp only [endThrow, dieOf, GStep.go.injEq] at ht; obtain ⟨_, e, _⟩ := ht; simp only [Stepped.next.injEq] at h; subst h; subst e; exact hs)
        | split at h)
theorem serve_drawn (p : Program) (m m' : Machine) (k : Nat) (h : serve p m k = .next m') : m.world.drawn ≤ m'.world.drawn := by
  unfold serve at h
  simp only [] at h
  repeat' first
    | (simp at h; done)
    | (simp only [Stepped.next.injEq] at h; subst h; exact Nat.le_refl _)
    | split at h
/-- Where a move leads: a machine that is not behind. -/
def MW (n : Nat) : Move → Prop
  | .goroutine m _ => n ≤ m.world.drawn
  | .machine (.next m) _ => n ≤ m.world.drawn
  | _ => True
theorem MW.le {n k : Nat} {v : Move} (h : n ≤ k) (h' : MW k v) : MW n v := by
  cases v with
  | goroutine m i => exact Nat.le_trans h h'
  | machine s ops => cases s <;> first | exact Nat.le_trans h h' | exact trivial
theorem serve_MW (p : Program) (m : Machine) (k : Nat) (ops : Array MemOp) : MW m.world.drawn (.machine (serve p m k) ops) := by
  cases h : serve p m k with
  | next m' => exact serve_drawn p m m' k h
  | ended o w => exact trivial
theorem pick_MW (p : Program) (rs : List Nat) (m : Machine) : MW m.world.drawn (match (choose (.sched rs.length)).run p m.world with
      | .halt _ w => .machine (.ended (.stuck "sched" "") w)
      | .ok k world =>
        if rs.length ≤ 1 then .goroutine { m with world } (rs.getD k 0) else
        match (choose (.extern "sched.slice" 65536)).run p world with
        | .halt _ w => .machine (.ended (.stuck "sched.slice" "") w)
        | .ok n world => .goroutine { m with world, rest := { m.rest with slice := if n = 0 then none else some (rs.getD k 0, n) } } (rs.getD k 0)) := by
  split <;> rename_i h
  · exact trivial
  · split
    · exact runW_le h
    · split <;> rename_i h2
      · exact trivial
      · exact Nat.le_trans (runW_le h) (runW_le h2)
theorem askOn_MW (p : Program) (m : Machine) : MW m.world.drawn (askOn p m) := by
  unfold askOn
  dsimp only
  split
  · exact trivial
  · rename_i k0 w0 h1
    refine MW.le (runW_le h1) ?_
    dsimp only [resW]
    split
    · exact serve_MW p _ _ _
    · split
      · split
        · exact Nat.le_refl _
        · split
          · exact Nat.le_refl _
          · split <;> exact trivial
      · split
        · exact pick_MW p (runnable m.gs m.world.os.mono) { m with world := w0 }
        · rename_i t ht
          split
          · exact trivial
          · rename_i w1 h2; exact MW.le (runW_le h2) (pick_MW p (runnable m.gs m.world.os.mono) { m with world := w1 })
          · rename_i h2; exact runW_le h2
          · rename_i k1 w1 h2; exact MW.le (runW_le h2) (pick_MW p (runnable m.gs m.world.os.mono) (({ m with world := w1 } : Machine).advanceTo (t - (k1 + 1))))
theorem ask_MW (p : Program) (m : Machine) : MW m.world.drawn (ask p m) := by
  unfold ask
  split
  · split <;> rename_i h1
    · exact trivial
    · refine MW.le (runW_le h1) ?_
      dsimp only [resW]
      split <;> rename_i h2
      · exact MW.le (look_drawn _ _ _ _ _ h2) (askOn_MW p _)
      · rename_i e
        cases hl : look p m.gs m.rest _ with
        | next m' => exact absurd hl (h2 m')
        | ended o w => exact trivial
    · exact MW.le (runW_le h1) (askOn_MW p _)
  · exact askOn_MW p m
theorem move_MW (p : Program) (m : Machine) : MW m.world.drawn (move p m) := by
  unfold move
  split
  · split
    · exact Nat.le_refl _
    · exact trivial
  · split
    · split
      · exact Nat.le_refl _
      · exact ask_MW p { m with rest := { m.rest with slice := none } }
    · exact ask_MW p m
theorem step_drawn (p : Program) (m m' : Machine) (h : step p m = .next m') : m.world.drawn ≤ m'.world.drawn := by
  unfold step stepT at h
  have hm := move_MW p m
  split at h <;> rename_i hk <;> rw [hk] at hm
  · exact Nat.le_trans hm (runT_drawn p _ m' _ _ h)
  · simp only [] at h
    subst h
    exact hm
theorem runN_drawn (p : Program) : ∀ (n : Nat) (m m' : Machine), runN p n m = .next m' → m.world.drawn ≤ m'.world.drawn
  | 0, m, m', h => by cases h; exact Nat.le_refl _
  | n + 1, m, m', h => by
    rw [runN] at h
    split at h <;> rename_i hs
    · exact Nat.le_trans (step_drawn p m _ hs) (runN_drawn p n _ m' h)
    · exact absurd h (hs m')
theorem Steps_drawn {p : Program} {m m' : Machine} (h : Steps p m m') : m.world.drawn ≤ m'.world.drawn := by
  obtain ⟨n, h⟩ := h
  exact runN_drawn p n m m' h
/-- From a call to its return the tape's place does not fall. -/
theorem Calls_drawn {P : Program} {f : FuncId} {args : Array Value} {w : World} {R : Ending → World → Prop} (h : Calls P f args w R) : Calls P f args w fun e w' => R e w' ∧ (e ≠ .outgrown → w.drawn ≤ w'.drawn) := fun cs => by
  obtain ⟨e, w', fr, h1, h2, h3⟩ := h cs
  refine ⟨e, w', fr, ⟨h1, fun hne => ?_⟩, h2, h3⟩
  cases e with
  | returned v => exact Steps_drawn h2
  | panicked c => exact Steps_drawn h2
  | outgrown => exact absurd rfl hne
end Go.Proofs.YtdppkpiagdaigaaGreatDoor
