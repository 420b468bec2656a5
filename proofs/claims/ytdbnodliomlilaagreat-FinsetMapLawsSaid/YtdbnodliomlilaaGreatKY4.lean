/- Regions in whatever order, with quiet operations, reads of what is in use, and changes of it: one walk serves if those that clash are tied by edges. -/
import Derived.Test.YtdbnodliomlilaaGreatKY3
import Derived.Lib.AppendZeros
import Derived.Test.YtdbnodliomlilaaGreatRows
import Derived.ProofKit
import Derived.OpenShut
import Derived.Deep.Slices
import Derived.Deep.Strs
import Derived.JoinedCond
import Derived.Lib.AppendStr
import Derived.Shelf.SlSortCmp.NoneTotal
import Derived.Sort.OwnSortedInts
import Derived.Test.YtdbnodliomlilaaGreatKY0
import Derived.Shelf.SortM.Plain
import Derived.Shelf.SortM.SortNone
namespace Go.Proofs.YtdbnodliomlilaaGreat
open Go.RowKit

section
variable {P : Program} {ops : Array Oper} {E : Env} {n : Nat} {QA : Exit → AF → Items → Prop} {af : AF} {σ : Items}

/-- Operation j waits for i, directly or not. -/
inductive Dep (ops : Array Oper) (i : Nat) : Nat → Prop where
  | one {j : Nat} {o : Oper} {e : Edge} (h : ops[j]? = some o) (he : e ∈ o.after) (hb : Region.binds .any e = true) (hi : e.on = i) : Dep ops i j
  | more {j : Nat} {o : Oper} {e : Edge} (h : ops[j]? = some o) (he : e ∈ o.after) (hb : Region.binds .any e = true) (hd : Dep ops i e.on) : Dep ops i j
def Down (ops : Array Oper) (listed : Array Bool) : Prop := ∀ j o, ops[j]? = some o → listed.getD j false = true → ∀ e ∈ o.after, Region.binds .any e = true → listed.getD e.on false = true
theorem Dep.unlisted {i j : Nat} {listed : Array Bool} (hd : Dep ops i j) (hD : Down ops listed) (hi : listed.getD i false = false) : listed.getD j false = false ∧ j ∉ Region.ready .any ops listed := by
  induction hd with
  | one h he hb hi' =>
    subst hi'
    constructor
    · cases hl : listed.getD _ false with
      | false => rfl
      | true => have := hD _ _ h hl _ he hb; rw [hi] at this; cases this
    · intro hr
      obtain ⟨_, o', ho', hall⟩ := mem_ready.1 hr
      rw [h] at ho'; injection ho' with ho'; subst ho'
      have := hall _ he hb
      rw [hi] at this; cases this
  | more h he hb _ ih =>
    constructor
    · cases hl : listed.getD _ false with
      | false => rfl
      | true => have := hD _ _ h hl _ he hb; rw [ih.1] at this; cases this
    · intro hr
      obtain ⟨_, o', ho', hall⟩ := mem_ready.1 hr
      rw [h] at ho'; injection ho' with ho'; subst ho'
      have := hall _ he hb
      rw [ih.1] at this; cases this
theorem Down.step {i : Nat} {listed : Array Bool} (hD : Down ops listed) (hr : i ∈ Region.ready .any ops listed) : Down ops (listed.setIfInBounds i true) := by
  intro j o ho hj e he hb
  obtain ⟨_, oi, hoi, hall⟩ := mem_ready.1 hr
  refine getD_set_true ?_
  by_cases hji : j = i
  · subst hji; rw [hoi] at ho; injection ho with ho; subst ho; exact hall e he hb
  · rw [getD_set_ne false (Ne.symm hji)] at hj; exact hD j o ho hj e he hb

/-- Those that wait for i, among the operations from k on. -/
def reach (i : Nat) : List Oper → Nat → List Nat → List Nat
  | [], _, acc => acc
  | o :: l, k, acc => reach i l (k + 1) (bif o.after.any (fun e => Region.binds .any e && (Nat.beq e.on i || acc.contains e.on)) then k :: acc else acc)
theorem reach_dep {i : Nat} : ∀ (l : List Oper) (k : Nat) (acc : List Nat), (∀ j, l[j]? = ops[k + j]?) → (∀ j ∈ acc, Dep ops i j) → ∀ j ∈ reach i l k acc, Dep ops i j
  | [], _, _, _, ha, j, hj => ha j hj
  | o :: l, k, acc, hl, ha, j, hj => by
    have h0 : ops[k]? = some o := by simpa using (hl 0).symm
    refine reach_dep l (k + 1) _ (fun j => by have := hl (j + 1); simpa [Nat.add_assoc, Nat.add_comm 1 j] using this) (fun q hq => ?_) j hj
    cases hc : o.after.any (fun e => Region.binds .any e && (Nat.beq e.on i || acc.contains e.on)) with
    | false => rw [hc] at hq; exact ha q hq
    | true =>
      rw [hc] at hq
      rcases List.mem_cons.1 hq with rfl | hq
      · rw [Array.any_eq_true] at hc
        obtain ⟨x, hx, hc⟩ := hc
        simp only [Bool.and_eq_true, Bool.or_eq_true] at hc
        rcases hc.2 with h | h
        · exact .one h0 (Array.getElem_mem hx) hc.1 (Nat.eq_of_beq_eq_true h)
        · exact .more h0 (Array.getElem_mem hx) hc.1 (ha _ (by simpa using h))
      · exact ha q hq

/-- All of kp are in use. -/
def Has (kp σ : Items) : Prop := ∀ it ∈ kp, it ∈ σ
def YieldsI (P : Program) (ops : Array Oper) (kp : Items) (o : Oper) (av : AV) (af : AF) : Prop :=
  (Sat ops o af false ∧ av = undefA) ∨ (Sat ops o af true ∧ ∀ σ, Has kp σ → Reads P o af σ av)
theorem YieldsI.put {kp : Items} {o oj : Oper} {av : AV} (x : AV) (h : ∀ d, oj.dst = some d → d ∉ o.looksAt ops) (hy : YieldsI P ops kp o av af) : YieldsI P ops kp o av (af.put oj.dst x) :=
  hy.imp (fun ⟨h1, h2⟩ => ⟨(Sat.put_iff x h).2 h1, h2⟩) (fun ⟨h1, h2⟩ => ⟨(Sat.put_iff x h).2 h1, fun σ hk => (h2 σ hk).put x h⟩)
theorem YieldsI.unput {kp : Items} {o oj : Oper} {av : AV} (x : AV) (h : ∀ d, oj.dst = some d → d ∉ o.looksAt ops) (hy : YieldsI P ops kp o av (af.put oj.dst x)) : YieldsI P ops kp o av af :=
  hy.imp (fun ⟨h1, h2⟩ => ⟨(Sat.put_iff x h).1 h1, h2⟩) (fun ⟨h1, h2⟩ => ⟨(Sat.put_iff x h).1 h1, fun σ hk => (h2 σ hk).unput x h⟩)
variable {kp : Items}
/-- Kinds: 0 quiet, 1 reads, 2 changes, 3 changes all but kp, 4 reads of kp. -/
def stepK (P : Program) (ops : Array Oper) (kp : Items) (kd : Nat) (i : Nat) (K : AF → Items → Prop) (af : AF) (σ : Items) : Prop :=
  match kd with
  | 3 => stepA P ops i (fun af' σ' => Has kp σ' ∧ K af' σ') af σ
  | 4 => match ops[i]? with | none => K af σ | some o => ∃ av, YieldsI P ops kp o av af ∧ K (af.put o.dst av) σ
  | 0 => match ops[i]? with | none => K af σ | some o => ∃ av, YieldsA P ops o av af ∧ K (af.put o.dst av) σ
  | 1 => match ops[i]? with | none => K af σ | some o => ∃ av, YieldsS P ops σ o av af ∧ K (af.put o.dst av) σ
  | _ => stepA P ops i K af σ
theorem stepK_3 {i : Nat} {K : AF → Items → Prop} (h : stepA P ops i (fun af' σ' => Has kp σ' ∧ K af' σ') af σ) : stepK P ops kp 3 i K af σ := by unfold stepK; exact h
theorem stepK_mono {kd i : Nat} {K K' : AF → Items → Prop} (h : ∀ af σ, K af σ → K' af σ) (hh : stepK P ops kp kd i K af σ) : stepK P ops kp kd i K' af σ := by
  unfold stepK at *
  split at hh
  · exact stepA_mono (fun af σ ⟨a, b⟩ => ⟨a, h _ _ b⟩) hh
  · split at hh
    · exact h _ _ hh
    · obtain ⟨av, h1, h2⟩ := hh; exact ⟨av, h1, h _ _ h2⟩
  · split at hh
    · exact h _ _ hh
    · obtain ⟨av, h1, h2⟩ := hh; exact ⟨av, h1, h _ _ h2⟩
  · split at hh
    · exact h _ _ hh
    · obtain ⟨av, h1, h2⟩ := hh; exact ⟨av, h1, h _ _ h2⟩
  · exact stepA_mono h hh
theorem stepA_of_read {i : Nat} {o : Oper} {av : AV} {K : AF → Items → Prop} (h0 : ops[i]? = some o) (h1 : YieldsS P ops σ o av af) (h2 : K (af.put o.dst av) σ) : stepA P ops i K af σ := by
  unfold stepA; simp only [h0]
  rcases h1 with ⟨g1, rfl⟩ | ⟨g1, g2⟩
  · exact .inl ⟨g1, h2⟩
  · exact .inr ⟨g1, _, loud_of_reads g2, fun a s ⟨e1, e2⟩ => by subst e1 e2; exact h2⟩
theorem YieldsI.at {o : Oper} {av : AV} (h : YieldsI P ops kp o av af) (hk : Has kp σ) : YieldsS P ops σ o av af := h.imp id (fun ⟨a, b⟩ => ⟨a, b σ hk⟩)
/-- The items of kp are asked for as long as a read of them may come. -/
def anyK (P : Program) (ops : Array Oper) (kp : Items) (kinds : Nat → Nat) (K : AF → Items → Prop) : Nat → Array Bool → AF → Items → Prop
  | 0, listed, af, σ => Region.ready .any ops listed = [] ∧ K af σ
  | fuel + 1, listed, af, σ => (Region.ready .any ops listed = [] → K af σ) ∧ ∀ i ∈ Region.ready .any ops listed, stepK P ops kp (kinds i) i (anyK P ops kp kinds K fuel (listed.setIfInBounds i true)) af σ ∧ (kinds i = 4 → Has kp σ)
theorem stepA_of_K {kd i : Nat} {K : AF → Items → Prop} (hkp : kd = 4 → Has kp σ) (hh : stepK P ops kp kd i K af σ) : stepA P ops i K af σ := by
  by_cases h4 : kd = 4
  · subst h4
    unfold stepK at hh
    simp only at hh
    split at hh
    · rename_i h0; unfold stepA; simp only [h0]; exact hh
    · rename_i o h0
      obtain ⟨av, h1, h2⟩ := hh
      exact stepA_of_read h0 (h1.at (hkp rfl)) h2
  · unfold stepK at hh
    split at hh
    · exact stepA_mono (fun af σ h => h.2) hh
    · exact absurd rfl h4
    · split at hh
      · rename_i h0; unfold stepA; simp only [h0]; exact hh
      · rename_i o h0
        obtain ⟨av, h1, h2⟩ := hh
        exact h1.step h0 h2
    · split at hh
      · rename_i h0; unfold stepA; simp only [h0]; exact hh
      · rename_i o h0
        obtain ⟨av, h1, h2⟩ := hh
        exact stepA_of_read h0 h1 h2
    · exact hh
theorem anyA_of_anyK {kinds : Nat → Nat} {K : AF → Items → Prop} : ∀ (fuel : Nat) (listed : Array Bool) (af : AF) (σ : Items), anyK P ops kp kinds K fuel listed af σ → anyA P ops K fuel listed af σ
  | 0, _, _, _, h => h
  | fuel + 1, listed, af, σ, h => ⟨h.1, fun i hi => stepA_mono (fun af σ hh => anyA_of_anyK fuel _ af σ hh) (stepA_of_K (h.2 i hi).2 (h.2 i hi).1)⟩
def YieldsK (P : Program) (ops : Array Oper) (kp : Items) (kd : Nat) (σ : Items) (o : Oper) (av : AV) (af : AF) : Prop := match kd with | 0 => YieldsA P ops o av af | 4 => YieldsI P ops kp o av af ∧ Has kp σ | _ => YieldsS P ops σ o av af
def okK (ki kj : Nat) : Bool := match ki with
  | 0 => true
  | 4 => Nat.beq kj 0 || Nat.beq kj 1 || Nat.beq kj 3 || Nat.beq kj 4
  | _ => Nat.beq kj 0 || Nat.beq kj 1 || Nat.beq kj 4
theorem stepK_put {ki kj j : Nat} {oi oj : Oper} {av : AV} (hj : ops[j]? = some oj) (hap : oi.apart ops oj = true) (hk : okK ki kj = true) {K : AF → Items → Prop}
    (hy : YieldsK P ops kp ki σ oi av af) (h : stepK P ops kp kj j K (af.put oi.dst av) σ) : stepK P ops kp kj j (fun af' σ' => YieldsK P ops kp ki σ' oi av af' ∧ K (af'.put oi.dst av) σ') af σ := by
  obtain ⟨h1, h2, h3⟩ := Oper.apart_spec hap
  have hput : ∀ u, YieldsK P ops kp ki σ oi av (af.put oj.dst u) := fun u => by
    unfold YieldsK at hy ⊢
    split at hy
    · exact YieldsA.put u h3 hy
    · exact ⟨hy.1.put u h3, hy.2⟩
    · exact YieldsS.put u h3 hy
  unfold stepK at h
  split at h
  · -- a change that keeps kp
    refine stepK_3 ?_
    unfold stepA at h ⊢
    simp only [hj] at h ⊢
    rcases h with ⟨g1, g2, g3⟩ | ⟨g1, post, g2, g3⟩
    · refine .inl ⟨(Sat.put_iff av h1).1 g1, g2, hput undefA, ?_⟩
      rw [← AF.put_comm af av undefA h2]; exact g3
    · refine .inr ⟨(Sat.put_iff av h1).1 g1, post, g2.unput av h1, fun u σ' hp => ⟨(g3 u σ' hp).1, ?_, ?_⟩⟩
      · have hkp := (g3 u σ' hp).1
        unfold YieldsK at hy ⊢
        split at hy
        · exact YieldsA.put u h3 hy
        · exact ⟨hy.1.put u h3, hkp⟩
        · rename_i n0 n4; simp [okK] at hk <;> (split at hk <;> simp_all)
      · rw [← AF.put_comm af av u h2]; exact (g3 u σ' hp).2
  · simp only [stepK, hj] at h ⊢
    obtain ⟨u, g1, g2⟩ := h
    refine ⟨u, g1.unput av h1, hput u, ?_⟩
    rw [← AF.put_comm af av u h2]; exact g2
  · simp only [stepK, hj] at h ⊢
    obtain ⟨u, g1, g2⟩ := h
    refine ⟨u, ?_, hput u, ?_⟩
    · exact g1.imp (fun ⟨a, b⟩ => ⟨(Sat.put_iff av h1).1 a, b⟩) (fun ⟨a, b⟩ => ⟨(Sat.put_iff av h1).1 a, fun M w ev hM hx => b M w ev hM (fun y hy => by rw [ev_put af av h1 y hy]; exact hx y hy)⟩)
    · rw [← AF.put_comm af av u h2]; exact g2
  · simp only [stepK, hj] at h ⊢
    obtain ⟨u, g1, g2⟩ := h
    refine ⟨u, g1.unput av h1, hput u, ?_⟩
    rw [← AF.put_comm af av u h2]; exact g2
  · rename_i n0 n1 n2 n3
    have hki : ki = 0 := by
      unfold okK at hk
      split at hk
      · rfl
      · simp only [Bool.or_eq_true] at hk
        rcases hk with ((h | h) | h) | h
        · exact absurd (Nat.eq_of_beq_eq_true h) n2
        · exact absurd (Nat.eq_of_beq_eq_true h) n3
        · exact absurd (Nat.eq_of_beq_eq_true h) n0
        · exact absurd (Nat.eq_of_beq_eq_true h) n1
      · simp only [Bool.or_eq_true] at hk
        rcases hk with (h | h) | h
        · exact absurd (Nat.eq_of_beq_eq_true h) n2
        · exact absurd (Nat.eq_of_beq_eq_true h) n3
        · exact absurd (Nat.eq_of_beq_eq_true h) n1
    subst hki
    have e : ∀ K af σ, stepK P ops kp kj j K af σ = stepA P ops j K af σ := fun K af σ => by
      unfold stepK
      split <;> first | rfl | exact absurd rfl ‹_›
    rw [e]
    exact stepA_put hj hap hy h
theorem anyK_first {kinds : Nat → Nat} {K : AF → Items → Prop} {i : Nat} {oi : Oper} {av : AV} (hi : ops[i]? = some oi) (hki : kinds i = 0 ∨ kinds i = 1 ∨ kinds i = 4) :
    ∀ (fuel : Nat) (listed : Array Bool) (af : AF) (σ : Items), Down ops listed →
      (∀ j oj, ops[j]? = some oj → j ≠ i → listed.getD j true = false → ¬ Dep ops i j → oi.apart ops oj = true ∧ okK (kinds i) (kinds j) = true) →
      i ∈ Region.ready .any ops listed → YieldsK P ops kp (kinds i) σ oi av af →
      anyK P ops kp kinds K fuel (listed.setIfInBounds i true) (af.put oi.dst av) σ → anyK P ops kp kinds K (fuel + 1) listed af σ := by
  intro fuel
  have one : ∀ {K' : AF → Items → Prop} {af : AF} {σ : Items}, YieldsK P ops kp (kinds i) σ oi av af → K' (af.put oi.dst av) σ → stepK P ops kp (kinds i) i K' af σ ∧ (kinds i = 4 → Has kp σ) := fun hy hk => by
    rcases hki with h | h | h <;> rw [h] at hy ⊢
    · exact ⟨by simp only [stepK, hi]; exact ⟨av, hy, hk⟩, fun h => by cases h⟩
    · exact ⟨by simp only [stepK, hi]; exact ⟨av, hy, hk⟩, fun h => by cases h⟩
    · exact ⟨by simp only [stepK, hi]; exact ⟨av, hy.1, hk⟩, fun _ => hy.2⟩
  induction fuel with
  | zero =>
    intro listed af σ _ _ hr hy H
    refine ⟨fun h => (by rw [h] at hr; cases hr), fun j hj => ?_⟩
    by_cases hji : j = i
    · subst hji; exact one hy H
    · have := ready_mono hj hji
      rw [H.1] at this
      cases this
  | succ fuel ih =>
    intro listed af σ hD hfree hr hy H
    refine ⟨fun h => (by rw [h] at hr; cases hr), fun j hj => ?_⟩
    by_cases hji : j = i
    · subst hji; exact one hy H
    · have h1 := H.2 j (ready_mono hj hji)
      obtain ⟨hjun, oj, hoj, hall⟩ := mem_ready.1 hj
      have hiun : listed.getD i false = false := by
        have := (mem_ready.1 hr).1
        cases hl : listed.getD i false with
        | false => rfl
        | true =>
          rcases Nat.lt_or_ge i listed.size with h' | h'
          · simp [h'] at this hl; rw [this] at hl; cases hl
          · simp [Array.getElem?_eq_none h'] at hl
      have hnd : ¬ Dep ops i j := fun hd => (hd.unlisted hD hiun).2 hj
      obtain ⟨hap, hkk⟩ := hfree j oj hoj hji hjun hnd
      have h2 := stepK_put hoj hap hkk hy h1.1
      have hfree' : ∀ k ok, ops[k]? = some ok → k ≠ i → (listed.setIfInBounds j true).getD k true = false → ¬ Dep ops i k → oi.apart ops ok = true ∧ okK (kinds i) (kinds k) = true := fun k ok hk hki hun hno => by
        refine hfree k ok hk hki ?_ hno
        by_cases hjk : j = k
        · subst hjk; exact hjun
        · rw [getD_set_ne true hjk] at hun; exact hun
      refine ⟨stepK_mono (fun af' σ' h3 => ih (listed.setIfInBounds j true) af' σ' (hD.step hj) hfree' (ready_mono hr (Ne.symm hji)) h3.1 ?_) h2, h1.2⟩
      rw [Array.setIfInBounds_comm _ _ hji]
      exact h3.2

/-! ### The walk in a given order: kinds and numbers -/
def opI (P : Program) (kp : Items) (o : Oper) (af : AF) (K : AF → Prop) : Prop := ∃ av, (∀ σ, Has kp σ → Reads P o af σ av) ∧ K (af.put o.dst av)
def opK (P : Program) (kp : Items) (kd : Nat) (o : Oper) (af : AF) (σ : Items) (K : AF → Items → Prop) : Prop := match kd with
  | 3 => opB P o af σ (fun af' σ' => Has kp σ' ∧ K af' σ')
  | 4 => Has kp σ ∧ opI P kp o af (fun af' => K af' σ)
  | 0 => opA P o af (fun af' => K af' σ)
  | 1 => opR P o af σ (fun af' => K af' σ)
  | _ => opB P o af σ K
def wpP (P : Program) (ops : Array Oper) (kp : Items) (K : AF → Items → Prop) : List (Nat × Nat) → AF → Items → Prop
  | [], af, σ => K af σ
  | (kd, i) :: rest, af, σ => ∃ o, ops[i]? = some o ∧ ((Sat ops o af false ∧ (kd = 3 ∨ kd = 4 → Has kp σ) ∧ wpP P ops kp K rest (af.put o.dst undefA) σ) ∨ (Sat ops o af true ∧ opK P kp kd o af σ (wpP P ops kp K rest)))
def kindOf (plan : List (Nat × Nat)) (i : Nat) : Nat := ((plan.find? (fun p => Nat.beq p.2 i)).map (·.1)).getD 2
def freeK (ops : Array Oper) (plan : List (Nat × Nat)) (listed : Array Bool) (i : Nat) : Bool :=
  match ops[i]? with
  | none => false
  | some oi =>
    let dep := reach i ops.toList 0 []
    (List.range ops.size).all fun j => Nat.beq j i || listed.getD j true || dep.contains j || (match ops[j]? with | none => false | some oj => oi.apart ops oj && okK (kindOf plan i) (kindOf plan j))
def lexK (ops : Array Oper) (plan : List (Nat × Nat)) : List (Nat × Nat) → Array Bool → Bool
  | [], listed => (Region.ready .any ops listed).isEmpty
  | (kd, k) :: rest, listed => Nat.beq (kindOf plan k) kd && (bif Nat.beq kd 0 || Nat.beq kd 1 || Nat.beq kd 4 then (Region.ready .any ops listed).contains k && freeK ops plan listed k else (Region.ready .any ops listed) == [k]) && lexK ops plan rest (listed.setIfInBounds k true)
theorem freeK_spec {plan : List (Nat × Nat)} {listed : Array Bool} {i : Nat} {oi : Oper} (hi : ops[i]? = some oi) (h : freeK ops plan listed i = true) (j : Nat) (oj : Oper) (hj : ops[j]? = some oj) (hne : j ≠ i) (hun : listed.getD j true = false) (hnd : ¬ Dep ops i j) :
    oi.apart ops oj = true ∧ okK (kindOf plan i) (kindOf plan j) = true := by
  unfold freeK at h
  simp only [hi] at h
  have hlt : j < ops.size := (Array.getElem?_eq_some_iff.1 hj).1
  have h1 := List.all_eq_true.1 h j (List.mem_range.2 hlt)
  simp only [Bool.or_eq_true, hun, hj, Bool.and_eq_true] at h1
  rcases h1 with ((h1 | h1) | h1) | h1
  · exact absurd (Nat.eq_of_beq_eq_true h1) hne
  · cases h1
  · exact absurd (reach_dep ops.toList 0 [] (fun q => by simp) (fun q hq => by simp at hq) j (by simpa using h1)) hnd
  · exact h1
theorem anyK_of_lex {plan : List (Nat × Nat)} {K : AF → Items → Prop} : ∀ (l : List (Nat × Nat)) (listed : Array Bool) (af : AF) (σ : Items), Down ops listed →
    lexK ops plan l listed = true → wpP P ops kp K l af σ → anyK P ops kp (kindOf plan) K l.length listed af σ
  | [], _, _, _, _, hB, h => ⟨by simpa [lexK] using hB, h⟩
  | (kd, k) :: l, listed, af, σ, hD, hB, h => by
    obtain ⟨o, h0, h⟩ := h
    simp only [lexK, Bool.and_eq_true] at hB
    obtain ⟨⟨hB0, hB1⟩, hB2⟩ := hB
    have hkd : kindOf plan k = kd := Nat.eq_of_beq_eq_true hB0
    by_cases hq : kd = 0 ∨ kd = 1 ∨ kd = 4
    · have hqb : (Nat.beq kd 0 || Nat.beq kd 1 || Nat.beq kd 4) = true := by rcases hq with h | h | h <;> rw [h] <;> rfl
      rw [hqb] at hB1
      simp only [cond_true, Bool.and_eq_true] at hB1
      obtain ⟨hr, hf⟩ := hB1
      have hr' : k ∈ Region.ready .any ops listed := by simpa using hr
      have hy : ∃ av, YieldsK P ops kp (kindOf plan k) σ o av af ∧ wpP P ops kp K l (af.put o.dst av) σ := by
        rw [hkd]
        rcases h with ⟨h1, hkp, h2⟩ | ⟨h1, h2⟩
        · refine ⟨undefA, ?_, h2⟩
          unfold YieldsK
          split
          · exact .inl ⟨h1, rfl⟩
          · exact ⟨.inl ⟨h1, rfl⟩, hkp (.inr rfl)⟩
          · exact .inl ⟨h1, rfl⟩
        · rcases hq with rfl | rfl | rfl
          · obtain ⟨av, g1, g2⟩ := h2
            exact ⟨av, .inr ⟨h1, g1⟩, g2⟩
          · obtain ⟨av, g1, g2⟩ := h2
            exact ⟨av, .inr ⟨h1, g1⟩, g2⟩
          · obtain ⟨hkp, av, g1, g2⟩ := h2
            exact ⟨av, ⟨.inr ⟨h1, g1⟩, hkp⟩, g2⟩
      obtain ⟨av, hy, hK⟩ := hy
      exact anyK_first (kinds := kindOf plan) h0 (by rw [hkd]; exact hq) l.length listed af σ hD (freeK_spec h0 hf) hr' hy (anyK_of_lex l _ _ σ (hD.step hr') hB2 hK)
    · have hqb : (Nat.beq kd 0 || Nat.beq kd 1 || Nat.beq kd 4) = false := by
        cases h1 : Nat.beq kd 0 with
        | true => exact absurd (.inl (Nat.eq_of_beq_eq_true h1)) hq
        | false => cases h2 : Nat.beq kd 1 with
          | true => exact absurd (.inr (.inl (Nat.eq_of_beq_eq_true h2))) hq
          | false => cases h3 : Nat.beq kd 4 with
            | true => exact absurd (.inr (.inr (Nat.eq_of_beq_eq_true h3))) hq
            | false => rfl
      rw [hqb] at hB1
      simp only [cond_false, beq_iff_eq] at hB1
      have hr' : k ∈ Region.ready .any ops listed := by rw [hB1]; simp
      refine ⟨fun h0 => (by rw [h0] at hB1; cases hB1), fun j hj => ?_⟩
      rw [hB1] at hj
      obtain rfl : j = k := by simpa using hj
      rw [hkd]
      refine ⟨?_, fun h4 => absurd (.inr (.inr h4)) hq⟩
      by_cases h3 : kd = 3
      · subst h3
        refine stepK_3 ?_
        unfold stepA; simp only [h0]
        rcases h with ⟨h1, hkp, h2⟩ | ⟨h1, h2⟩
        · exact .inl ⟨h1, hkp (.inl rfl), anyK_of_lex l _ _ σ (hD.step hr') hB2 h2⟩
        · obtain ⟨post, p1, p2⟩ := h2
          exact .inr ⟨h1, post, p1, fun av σ' hp => ⟨(p2 av σ' hp).1, anyK_of_lex l _ _ σ' (hD.step hr') hB2 (p2 av σ' hp).2⟩⟩
      have e : ∀ K af σ, stepK P ops kp kd j K af σ = stepA P ops j K af σ := fun K af σ => by
        unfold stepK
        split
        · exact absurd rfl h3
        · exact absurd (.inr (.inr rfl)) hq
        · exact absurd (.inl rfl) hq
        · exact absurd (.inr (.inl rfl)) hq
        · rfl
      rw [e]
      unfold stepA; simp only [h0]
      rcases h with ⟨h1, _, h2⟩ | ⟨h1, h2⟩
      · exact .inl ⟨h1, anyK_of_lex l _ _ σ (hD.step hr') hB2 h2⟩
      · refine .inr ⟨h1, ?_⟩
        have h3 : opB P o af σ (wpP P ops kp K l) := by
          unfold opK at h2
          split at h2
          · exact absurd rfl h3
          · exact absurd (.inr (.inr rfl)) hq
          · exact absurd (.inl rfl) hq
          · exact absurd (.inr (.inl rfl)) hq
          · exact h2
        obtain ⟨post, p1, p2⟩ := h3
        exact ⟨post, p1, fun av σ' hp => anyK_of_lex l _ _ σ' (hD.step hr') hB2 (p2 av σ' hp)⟩
def planKB (plan : List (Nat × Nat)) (l : List Oper) (n : Nat) : Bool := dstB l.toArray n && Nat.beq plan.length l.length && lexK l.toArray plan plan (Array.replicate l.length false)
variable {ks : List KFr}
theorem k_plan (kp : Items) (plan : List (Nat × Nat)) {id : Nat} {l : List Oper} (hm : P.follows .mixedOrders = true) (hB : planKB plan l n = true)
    (h : wpP P l.toArray kp (den P E n ks .normal) plan af σ) : awp P E n (.region id l.toArray true) (den P E n ks) af σ := by
  simp only [planKB, Bool.and_eq_true] at hB
  intro a w hh
  refine wp_region_any hm ?_
  have hD : Down l.toArray (Array.replicate l.length false) := fun j o _ hj => by
    rw [Array.getD_eq_getD_getElem?, Array.getElem?_replicate] at hj
    split at hj <;> cases hj
  have hl : plan.length = l.length := Nat.eq_of_beq_eq_true hB.1.2
  have h1 := anyA_of_anyK (kp := kp) _ _ _ _ (anyK_of_lex (plan := plan) plan (Array.replicate l.length false) af σ hD hB.2 h)
  rw [hl] at h1
  simpa using wpAny_of_anyA hB.1.1 _ _ af σ a _ h1 hh.drew

variable {K : AF → Items → Prop} {rest : List (Nat × Nat)} {dst : Option Tmp} {op : Op} {ty0 : TypeId} {pos0 : String} {after0 : Array Edge} {i kd : Nat}
theorem opK_q {o : Oper} (hkd : kd = 3 ∨ kd = 4 → Has kp σ) (h : opA P o af (fun af' => K af' σ)) : opK P kp kd o af σ K := by
  obtain ⟨av, h1, h2⟩ := h
  unfold opK
  split
  · exact ⟨_, loud_of_quiet σ h1, fun a s ⟨e1, e2⟩ => by subst e1 e2; exact ⟨hkd (.inl rfl), h2⟩⟩
  · exact ⟨hkd (.inr rfl), av, fun σ _ => h1.reads σ, h2⟩
  · exact ⟨av, h1, h2⟩
  · exact ⟨av, h1.reads σ, h2⟩
  · exact ⟨_, loud_of_quiet σ h1, fun a s ⟨e1, e2⟩ => by subst e1 e2; exact h2⟩
theorem P_nil (h : K af σ) : wpP P ops kp K [] af σ := h
theorem P_q (hkd : kd = 3 ∨ kd = 4 → Has kp σ) (hi : ops[i]? = some ⟨dst, op, ty0, pos0, after0, none⟩) (h : opA P ⟨dst, op, ty0, pos0, after0, none⟩ af (fun af' => wpP P ops kp K rest af' σ)) : wpP P ops kp K ((kd, i) :: rest) af σ := ⟨_, hi, .inr ⟨.inl ⟨rfl, rfl⟩, opK_q (K := wpP P ops kp K rest) hkd h⟩⟩
theorem P_r (hi : ops[i]? = some ⟨dst, op, ty0, pos0, after0, none⟩) (h : opR P ⟨dst, op, ty0, pos0, after0, none⟩ af σ (fun af' => wpP P ops kp K rest af' σ)) : wpP P ops kp K ((1, i) :: rest) af σ := ⟨_, hi, .inr ⟨.inl ⟨rfl, rfl⟩, h⟩⟩
theorem P_l (hi : ops[i]? = some ⟨dst, op, ty0, pos0, after0, none⟩) (h : opB P ⟨dst, op, ty0, pos0, after0, none⟩ af σ (wpP P ops kp K rest)) : wpP P ops kp K ((2, i) :: rest) af σ := ⟨_, hi, .inr ⟨.inl ⟨rfl, rfl⟩, h⟩⟩
variable {j : Nat} {want : Bool} {dg : Tmp} {c : Bool} {p : Prop} [Decidable p]
theorem Py_q (hkd : kd = 3 ∨ kd = 4 → Has kp σ) (hi : ops[i]? = some ⟨dst, op, ty0, pos0, after0, some (j, want)⟩) (hj : (ops[j]?).bind (·.dst) = some dg) (hv : af dg = .exact (.bool want)) (h : opA P ⟨dst, op, ty0, pos0, after0, some (j, want)⟩ af (fun af' => wpP P ops kp K rest af' σ)) : wpP P ops kp K ((kd, i) :: rest) af σ :=
  ⟨_, hi, .inr ⟨by simpa using Sat.mk (want := want) hj hv, opK_q (K := wpP P ops kp K rest) hkd h⟩⟩
theorem Py_r (hi : ops[i]? = some ⟨dst, op, ty0, pos0, after0, some (j, want)⟩) (hj : (ops[j]?).bind (·.dst) = some dg) (hv : af dg = .exact (.bool want)) (h : opR P ⟨dst, op, ty0, pos0, after0, some (j, want)⟩ af σ (fun af' => wpP P ops kp K rest af' σ)) : wpP P ops kp K ((1, i) :: rest) af σ :=
  ⟨_, hi, .inr ⟨by simpa using Sat.mk (want := want) hj hv, h⟩⟩
theorem P_n (hkd : kd = 3 ∨ kd = 4 → Has kp σ) (hi : ops[i]? = some ⟨dst, op, ty0, pos0, after0, some (j, want)⟩) (hj : (ops[j]?).bind (·.dst) = some dg) (hv : af dg = .exact (.bool (!want))) (h : wpP P ops kp K rest (af.put dst undefA) σ) : wpP P ops kp K ((kd, i) :: rest) af σ :=
  ⟨_, hi, .inl ⟨by simpa using Sat.mk (want := want) hj hv, hkd, h⟩⟩
variable {pl : List (Nat × Nat)}
theorem P_split (dg : Tmp) (hv : af dg = .exact (.bool (decide p))) (h1 : p → wpP P ops kp K pl (af.put (some dg) (.exact (.bool true))) σ) (h2 : ¬ p → wpP P ops kp K pl (af.put (some dg) (.exact (.bool false))) σ) : wpP P ops kp K pl af σ := by
  by_cases hp : p
  · have := h1 hp; rwa [put_b hv (by simp [hp])] at this
  · have := h2 hp; rwa [put_b hv (by simp [hp])] at this
theorem Has.cons {it : Item} {kp : Items} (h : it ∈ σ) (h' : Has kp σ) : Has (it :: kp) σ := fun x hx => by
  rcases List.mem_cons.1 hx with rfl | hx
  · exact h
  · exact h' x hx
theorem no34_0 : (0 : Nat) = 3 ∨ (0 : Nat) = 4 → Has kp σ := fun h => by rcases h with h | h <;> cases h
theorem no34_1 : (1 : Nat) = 3 ∨ (1 : Nat) = 4 → Has kp σ := fun h => by rcases h with h | h <;> cases h
end
end Go.Proofs.YtdbnodliomlilaaGreat
/- Function values; slices against nil; tests of which one answer is certain. -/
namespace Go.Proofs.YtdbnodliomlilaaGreat
open Go.RowKit

section
variable {P : Program} {E : Env} {n : Nat} {af : AF} {σ : Items} {K : AF → Prop} {d : Option Tmp} {ty : TypeId} {pos : String} {after : Array Edge} {g : Option (Nat × Bool)} {ks : List KFr}

/-- A test: true only where p holds. -/
def AV.nilq (p : Prop) : AV := ⟨fun _ _ v => ∃ b : Bool, v = .bool b ∧ (b = true → p), fun _ _ h => h⟩
/-- A test: false only where p holds. -/
def AV.nilqn (p : Prop) : AV := ⟨fun _ _ v => ∃ b : Bool, v = .bool b ∧ (b = false → p), fun _ _ h => h⟩

theorem awp_condu {c : Operand} {x y : Code} {QA : Exit → AF → Items → Prop} {p : Prop} (hc : af.ev c = .nilq p) (ht : p → awp P E n x QA af σ) (hf : awp P E n y QA af σ) : awp P E n (.cond c x y) QA af σ := by
  intro a w hh
  have h1 := hh.ev c
  rw [hc] at h1
  obtain ⟨b, e1, hb⟩ := h1
  exact wp_cond_split e1 (fun e => ht (hb e) a w hh) (fun _ => hf a w hh)
theorem k_cond_u {c : Operand} {x y : Code} {p : Prop} (hc : af.ev c = .nilq p) (ht : p → awp P E n x (den P E n ks) af σ) (hf : awp P E n y (den P E n ks) af σ) : awp P E n (.cond c x y) (den P E n ks) af σ := awp_condu hc ht hf
variable {α : Type} {m : Nat} {enc : α → List AV} {xs : List α} {v : Value}
theorem equal_nil {t : TypeId} {e : TypeId} (ht : P.underlying t = some (.slice e)) (A : Option Addr) (l c : Nat) (w : World) : (Op.equal t (.slice A l c) (.slice none 0 0)).run P w = .ok A.isNone w := by
  have key : ∀ D : Nat, (Op.equalIn (D + 1) t (.slice A l c) (.slice none 0 0)).run P w = .ok A.isNone w := by
    intro D
    cases A <;> simp [Op.equalIn, run_underlying ht]
  exact key 9999
theorem slice_under {t : TypeId} (h : isSliceB P t = true) : ∃ e, P.underlying t = some (.slice e) := by
  unfold isSliceB at h
  split at h
  · rename_i e he; exact ⟨_, he⟩
  · cases h
theorem op_eqnil_row {t t' : TypeId} {x : Operand} (hB : isSliceB P t = true) (hx : af.ev x = .row m enc xs) (hk : K (af.put d (.nilq (xs = [])))) : opA P ⟨d, .binOp .eql t x (.const (.slice none 0 0)) t', ty, pos, after, g⟩ af K := by
  refine ⟨_, fun M w ev _ h => ?_, hk⟩
  obtain ⟨e, ht⟩ := slice_under hB
  obtain ⟨A, c, e1, _, _, h4⟩ := opnd_p h (x := x) (by simp [Op.operands]) hx
  have e2 := opnd h (x := .const (.slice none 0 0)) (by simp [Op.operands]) rfl
  simp [execOp, eqGuard, e1, e2, binOp, equal_nil ht, go_sem, UponQ]
  refine ⟨Keeps.refl _ _, A.isNone, rfl, fun hA => ?_⟩
  cases xs with
  | nil => rfl
  | cons y ys =>
    obtain ⟨b, off, rfl, _⟩ := h4 (by simp)
    cases hA
/-! ### Function values -/
/-- A function value: called with what args i says, it touches nothing in use and gives back what f i says. -/
def AV.fn (P : Program) {ι ρ : Type} (args : ι → List AV) (f : ι → Option ρ) (res : ρ → AV) : AV :=
  ⟨fun M w v => ∃ (k : FuncId) (fn : Func) (caps : List Value) (avs : List AV), v = .func (.func k) #[] caps.toArray ∧ P.funcs[k]? = some fn ∧ (fn.body.isNone || fn.name == "runtime.NumGoroutine") = false ∧ Fit M w avs caps ∧ ∀ i r, f i = some r → Pure P k (args i ++ avs) (res r),
   fun hk hm ⟨k, fn, caps, avs, h1, h2, h3, h4, h5⟩ => ⟨k, fn, caps, avs, h1, h2, h3, h4.keep hk hm, h5⟩⟩
theorem Fit.append {M : BSet} {w : World} {xs ys : List AV} {vs us : List Value} (h : Fit M w xs vs) (h' : Fit M w ys us) : Fit M w (xs ++ ys) (vs ++ us) := Fit.app h h'
theorem fit_opnds {xs : List Operand} {args : List AV} {M : BSet} {w : World} {ev : Operand → Value} (h : ∀ x ∈ xs, (af.ev x).p M w (ev x)) (hx : LEs (xs.map af.ev) args) : Fit M w args (xs.map ev) := by
  refine LE_fit hx ?_
  clear hx
  induction xs with
  | nil => trivial
  | cons x xs ih => exact ⟨h x (by simp), ih (fun y hy => h y (by simp [hy]))⟩
theorem op_callfn {ι ρ : Type} {args : ι → List AV} {f : ι → Option ρ} {res : ρ → AV} (i : ι) {r : ρ} {z : Operand} {xs : List Operand} {ats : Array TypeId} (hz : af.ev z = .fn P args f res) (hr : f i = some r)
    (hx : LEs (xs.map af.ev) (args i)) (hk : K (af.put d (res r))) : opA P ⟨d, .call { callee := .value z, args := xs.toArray, argTypes := ats }, ty, pos, after, g⟩ af K := by
  refine ⟨res r, fun M w ev hM h => ?_, hk⟩
  obtain ⟨k, fn, caps, avs, e1, e2, e3, e4, e5⟩ := opnd_p h (x := z) (by simp [Op.operands, Call.operands]) hz
  have hfit : Fit M w (args i) (xs.map ev) := fit_opnds (fun x hm => h x (by simp [Op.operands, Call.operands, hm])) hx
  simp only [Bool.or_eq_false_iff] at e3
  have hrun : (execOp ev ⟨d, .call { callee := .value z, args := xs.toArray, argTypes := ats }, ty, pos, after, g⟩).run P w = .ok (.enter k (xs.map ev ++ caps).toArray) w := by
    simp [execOp, resolve, e1, Deferred.ofValue, invoke, run_callFunc e2 e3.1 e3.2, go_sem]
  rw [hrun]
  exact e5 i r hr M w _ hM (hfit.app e4)
/-- A function of the program, as a value. -/
theorem fn_le {ι ρ : Type} {args : ι → List AV} {f : ι → Option ρ} {res : ρ → AV} {k : FuncId} {fn : Func} (h2 : P.funcs[k]? = some fn) (h3 : (fn.body.isNone || fn.name == "runtime.NumGoroutine") = false) (h : ∀ i r, f i = some r → Pure P k (args i) (res r)) :
    AV.le (.exact (.func (.func k) #[] #[])) (.fn P args f res) := fun M w v hv => ⟨k, fn, [], [], hv, h2, h3, trivial, fun i r hr => by rw [List.append_nil]; exact h i r hr⟩
/-- A closure made. -/
theorem op_makeFunc {ι ρ : Type} {args : ι → List AV} {f : ι → Option ρ} {res : ρ → AV} {k : FuncId} {fn : Func} {cs : List Operand} (h2 : P.funcs[k]? = some fn) (h3 : (fn.body.isNone || fn.name == "runtime.NumGoroutine") = false) (avs : List AV) (hx : LEs (cs.map af.ev) avs)
    (h : ∀ i r, f i = some r → Pure P k (args i ++ avs) (res r)) (hk : K (af.put d (.fn P args f res))) : opA P ⟨d, .makeFunc (.func k) #[] cs.toArray, ty, pos, after, g⟩ af K := by
  refine ⟨_, fun M w ev hM hh => ?_, hk⟩
  have hfit : Fit M w avs (cs.map ev) := fit_opnds (fun x hm => hh x (by simp [Op.operands, hm])) hx
  simp [execOp, Instr.makeFunc, go_sem, UponQ]
  exact ⟨Keeps.refl _ _, k, fn, cs.map ev, avs, by simp, h2, h3, hfit, h⟩
end
end Go.Proofs.YtdbnodliomlilaaGreat
/- clear of a part of a row in use. -/
namespace Go.Proofs.YtdbnodliomlilaaGreat
open Go.RowKit

theorem zeroCells_succ (zc : Array Value) (m : Nat) : (Builtin.zeroCells zc (m + 1)).toList = zc.toList ++ (Builtin.zeroCells zc m).toList := by
  simp only [Builtin.zeroCells, Array.toList_map, Array.toList_range]
  rw [show (m + 1) * zc.size = zc.size + m * zc.size by rw [Nat.add_mul]; omega, List.range_add, List.map_append, List.map_map]
  congr 1
  · apply List.ext_getElem
    · simp
    · intro i h1 h2
      simp at h1
      simp [Nat.mod_eq_of_lt h1, h1]
  · apply List.map_congr_left
    intro i _
    simp [Nat.add_mod_left]

theorem Fit.nil0 {M : BSet} {w : World} : Fit M w [] [] := trivial
theorem Fit.ex {M : BSet} {w : World} {v : Value} {c : List AV} {vs : List Value} (h : Fit M w c vs) : Fit M w (.exact v :: c) (v :: vs) := ⟨rfl, h⟩
section
variable {P : Program} {af : AF} {ρ : Items} {d : Option Tmp} {ty t : TypeId} {pos : String} {after : Array Edge} {g : Option (Nat × Bool)} {α : Type} {n : Nat} {enc : α → List AV} {xs : List α} {v : Value} {K : AF → Items → Prop}

theorem fit_zeros {M : BSet} {w : World} {zr : α} {zc : Array Value} (hz : Fit M w (enc zr) zc.toList) : ∀ m : Nat, Fit M w ((List.replicate m zr).flatMap enc) (Builtin.zeroCells zc m).toList
  | 0 => by simp [Builtin.zeroCells, Fit]
  | m + 1 => by
    rw [zeroCells_succ, List.replicate_succ, List.flatMap_cons]
    exact hz.app (fit_zeros hz m)
theorem flat_parts (he : ∀ x, (enc x).length = n) : ∀ (ys : List α) (k : Nat), (ys.flatMap enc).take (k * n) = (ys.take k).flatMap enc ∧ (ys.flatMap enc).drop (k * n) = (ys.drop k).flatMap enc := by
  intro ys
  induction ys with
  | nil => simp
  | cons y ys ih =>
    intro k
    cases k with
    | zero => simp
    | succ k =>
      have hl : (enc y).length = n := he y
      rw [List.flatMap_cons, Nat.add_mul, Nat.one_mul, Nat.add_comm (k * n) n]
      constructor
      · rw [← hl, List.take_length_add_append, hl, (ih k).1]; rfl
      · rw [← hl, List.drop_length_add_append, hl, (ih k).2]; rfl

theorem op_clear {lo m : Nat} {zr : α} {z : Value} {x : Operand} (hE : elB P t n = true) (he : ∀ x, (enc x).length = n) (ho : ∀ x, OneC (enc x)) (hx : af.ev x = .vsub v n lo m) (hl : lo + m ≤ xs.length) (hz : ∀ w, (zeroValue (elemOfT P t)).run P w = .ok z w) (hzf : ∀ M w, Fit M w (enc zr) z.cells.toList)
    (hk : K (af.put d (.exact (.tuple #[]))) (vecT P t n enc v (xs.take lo ++ List.replicate m zr ++ xs.drop (lo + m)) :: ρ)) : opB P ⟨d, .call { callee := .builtin .clear, args := #[x], argTypes := #[t] }, ty, pos, after, g⟩ af (vecT P t n enc v xs :: ρ) K := by
  refine ⟨fun a s => a = .exact (.tuple #[]) ∧ s = vecT P t n enc v (xs.take lo ++ List.replicate m zr ++ xs.drop (lo + m)) :: ρ, fun F w ev hg h => ?_, fun av s ⟨e1, e2⟩ => by subst e1 e2; exact hk⟩
  obtain ⟨ht, hn0, I, zz, hi, hz', hi1, hi2, hi3⟩ := elB_spec hE
  obtain ⟨A, l, c, hv, hc1, hc2, e1⟩ := opnd_p h (x := x) (by simp [Op.operands, Call.operands]) hx
  have hlen : (xs.take lo ++ List.replicate m zr ++ xs.drop (lo + m)).length = xs.length := by simp; omega
  by_cases hm : m = 0
  · subst hm
    have hcl : (Builtin.clear_ #[t] ty #[ev x]).run P w = .ok (.tuple #[]) w := by
      rw [e1]
      split <;> (try cases A) <;> simp [Builtin.clear_, run_underlying ht]
    have hrun : (execOp ev ⟨d, .call { callee := .builtin .clear, args := #[x], argTypes := #[t] }, ty, pos, after, g⟩).run P w = .ok (.value (.tuple #[])) w := by
      unfold execOp
      simp only [resolve, invoke, builtin, Sem.run_bind, Sem.run_pure, Result.andThen_ok, List.map_toArray, List.map_cons, List.map_nil, hcl]
    rw [hrun]
    have hxs : xs.take lo ++ List.replicate 0 zr ++ xs.drop (lo + 0) = xs := by simp
    refine ⟨_, _, ⟨rfl, rfl⟩, by rw [hxs]; exact hg, (Keeps.refl noB w).mono (fun _ _ h => h.elim), by rw [hxs]; exact fun k h _ => h, rfl⟩
  · obtain ⟨b, c', cur, vs, hv', hb, hnc, hcm, hcs, htk, hfit⟩ := vec_cells (hg.items _ List.mem_cons_self) (by rintro rfl; simp at hl; omega)
    rw [hv'] at hv
    injection hv with q1 q2 q3
    subst q1 q2 q3
    rw [if_neg (by omega)] at e1
    have hadd : Option.map (fun x => x.add (lo * n)) (some (⟨b, 0, none⟩ : Addr)) = some ⟨b, lo * n, none⟩ := by simp [addr_add']
    rw [hadd] at e1
    have hbm : (lo + m) * n ≤ xs.length * n := Nat.mul_le_mul_right _ hl
    have hcn : xs.length * n ≤ cur.size := by rw [hcs]; exact Nat.mul_le_mul_right _ hnc
    have haddm : (lo + m) * n = lo * n + m * n := Nat.add_mul _ _ _
    have hfz := fun M w => fit_zeros (M := M) (w := w) (hzf M w) m
    have hul : (Builtin.zeroCells z.cells m).toList.length = m * n := by rw [← (hfz noB w).length, flat_len (fun x _ => he x), List.length_replicate]
    have h1c : ∀ u ∈ (Builtin.zeroCells z.cells m).toList, u.oneCell' = true := (OneC.flatT (xs := List.replicate m zr) ho).fit (hfz noB w)
    have hst := run_storeCells_at (P := P) b (lo * n) (elemOfT P t) (Builtin.zeroCells z.cells m).toList 0 cur w hb (by omega) h1c
    simp only [Nat.add_zero] at hst
    obtain ⟨m', rfl⟩ : ∃ k, m = k + 1 := ⟨m - 1, by omega⟩
    have hcl : (Builtin.clear_ #[t] ty #[ev x]).run P w = .ok (.tuple #[]) (w.setRow b (splc cur.toList (lo * n) (Builtin.zeroCells z.cells (m' + 1)).toList).toArray) := by
      rw [e1]
      simp [Builtin.clear_, run_underlying ht, hz, hst, splc]
    have hrun : (execOp ev ⟨d, .call { callee := .builtin .clear, args := #[x], argTypes := #[t] }, ty, pos, after, g⟩).run P w = .ok (.value (.tuple #[])) (w.setRow b (splc cur.toList (lo * n) (Builtin.zeroCells z.cells (m' + 1)).toList).toArray) := by
      unfold execOp
      simp only [resolve, invoke, builtin, Sem.run_bind, Sem.run_pure, Result.andThen_ok, List.map_toArray, List.map_cons, List.map_nil, hcl]
    rw [hrun]
    generalize hus : (Builtin.zeroCells z.cells (m' + 1)).toList = us at *
    generalize hmm : m' + 1 = m at *
    have hblt := (Array.getElem?_eq_some_iff.1 hb).1
    have hob : v.ownBlock = some b := by rw [hv']; rfl
    have hk : Keeps (fun k => k ∈ (vecT P t n enc v xs).own) w (w.setRow b (splc cur.toList (lo * n) us).toArray) := ⟨rfl, rfl, rfl, Nat.le_refl _, by simp, fun k hlt hn => by
      have hne : k ≠ b := fun e => hn (by simp [vecT, vecI, hob, e])
      simp [World.setRow, Array.getElem?_modify, Ne.symm hne]⟩
    have hsp : splc cur.toList (lo * n) us = splc (cur.toList.take (xs.length * n)) (lo * n) us ++ cur.toList.drop (xs.length * n) := by
      unfold splc
      rw [List.take_take, Nat.min_eq_left (by omega), List.append_assoc _ _ (cur.toList.drop (xs.length * n))]
      congr 1
      rw [List.drop_take]
      have h9 : lo * n + us.length + (xs.length * n - (lo * n + us.length)) = xs.length * n := by omega
      conv => rhs; rhs; rw [← h9, ← List.drop_drop]
      rw [List.take_append_drop]
    have hsl : (splc vs (lo * n) us).length = xs.length * n := by
      have hvl : vs.length = xs.length * n := by rw [← hfit.length, flat_len (fun x _ => he x)]
      unfold splc; simp; omega
    have hflat : splc (xs.flatMap enc) (lo * n) ((List.replicate m zr).flatMap enc) = (xs.take lo ++ List.replicate m zr ++ xs.drop (lo + m)).flatMap enc := by
      unfold splc
      rw [flat_len (fun x _ => he x), List.length_replicate, ← haddm, (flat_parts he xs lo).1, (flat_parts he xs (lo + m)).2, List.flatMap_append, List.flatMap_append]
    have hown : (w.setRow b (splc cur.toList (lo * n) us).toArray).ownsRow 0 (elemOfT P t) n v (xs.take lo ++ List.replicate m zr ++ xs.drop (lo + m)).length (splc vs (lo * n) us) := by
      refine ⟨by rw [hsl, hlen], .inr ⟨b, c', (splc cur.toList (lo * n) us).toArray, by rw [hlen]; exact hv', Nat.zero_le _, setRow_heap w b cur _ (elemOfT P t) _ hb, by rw [hlen]; exact hnc, hcm, ?_, ?_⟩⟩
      · unfold splc; simp; omega
      · rw [hlen, hsp, htk]
        simp [← hsl]
    obtain ⟨g1, g2, g3⟩ := good_head (it' := vecT P t n enc v (xs.take lo ++ List.replicate m zr ++ xs.drop (lo + m))) hg hk (fun k hk' => ⟨by simp [vecT, vecI, hob] at hk'; subst hk'; simpa using hblt, fun _ => hk'⟩) (by simp [vecT, vecI, hob])
      (fun hkk hMM => ⟨splc vs (lo * n) us, hown, by rw [← hflat]; exact (Fit.spl (lo * n) hfit (hfz _ _)).keep hkk hMM⟩)
    exact ⟨_, _, ⟨rfl, rfl⟩, g1, g2, g3, rfl⟩
theorem op_len_vsub {lo m : Nat} {x : Operand} {K : AF → Prop} (hB : isSliceB P t = true) (hx : af.ev x = .vsub v n lo m) (hk : K (af.put d (.exact (.int .i64 (m : Int))))) : opA P ⟨d, .call { callee := .builtin .len, args := #[x], argTypes := #[t] }, ty, pos, after, g⟩ af K := by
  refine ⟨_, fun M w ev _ h => ?_, hk⟩
  obtain ⟨A, l, c, _, _, _, hA⟩ := opnd_p h (x := x) (by simp [Op.operands, Call.operands]) hx
  obtain ⟨e, hu⟩ := isSliceB_spec hB
  simp [execOp, resolve, invoke, builtin, Builtin.len_, hA, run_under hu, goInt, go_sem, UponQ]
  exact ⟨Keeps.refl _ _, rfl⟩
theorem op_index_vsub {e : TypeId} {k : IntKind} {i j : Int} {lo m : Nat} {x y : Operand} {K : AF → Prop} (hB : sliceB P t n = true) (hx : af.ev x = .vsub v n lo m) (hy : af.ev y = .exact (.int k i)) (h0 : 0 ≤ i) (h1 : i.toNat < m) (hl : 0 < xs.length) (hj : j.toNat = lo + i.toNat) (hk : K (af.put d (.eptr v (j.toNat * n)))) :
    opR P ⟨d, .indexAddr t x y, ty, pos, after, g⟩ af (vecT P e n enc v xs :: ρ) K := by
  refine ⟨_, fun F w ev hg h => ?_, hk⟩
  obtain ⟨A, l, c, hv', hc1, hc2, e1⟩ := opnd_p h (x := x) (by simp [Op.operands]) hx
  have e2 := opnd h (x := y) (by simp [Op.operands]) hy
  obtain ⟨b, c', cur, vs, hv, _⟩ := vec_cells (hg.items _ List.mem_cons_self) (by rintro rfl; simp at hl)
  obtain ⟨e', hu, hs⟩ := sliceB_spec hB
  rw [hv] at hv'
  injection hv' with q1 q2 q3
  subst q1 q2 q3
  rw [if_neg (by omega)] at e1
  have hadd0 : Option.map (fun x => x.add (lo * n)) (some (⟨b, 0, none⟩ : Addr)) = some ⟨b, lo * n, none⟩ := by simp [addr_add']
  rw [hadd0] at e1
  have hadd : Addr.add ⟨b, lo * n, none⟩ (i.toNat * n) = ⟨b, j.toNat * n, none⟩ := by rw [addr_at, hj, Nat.add_mul]
  have h1' : i < (m : Int) := by omega
  subst hv
  simp [execOp, Instr.indexAt, e1, e2, run_under hu, asIntOf, h0, h1', run_size hs, hadd, go_sem, UponQ]
  exact ⟨Keeps.refl _ _, b, _, _, rfl, by rw [hj, Nat.add_mul]⟩
end
end Go.Proofs.YtdbnodliomlilaaGreat
/- append(nil, make(n)): a new row in use, of zeros. -/
namespace Go.Proofs.YtdbnodliomlilaaGreat
open Go.RowKit

section
variable {P : Program} {af : AF} {σ : Items} {d : Option Tmp} {ty t tn : TypeId} {pos : String} {after : Array Edge} {g : Option (Nat × Bool)} {α : Type} {n : Nat} {enc : α → List AV} {K : AF → Items → Prop}
end
end Go.Proofs.YtdbnodliomlilaaGreat
/- The nil slice: its capacity, its empty part. -/
namespace Go.Proofs.YtdbnodliomlilaaGreat
open Go.RowKit

section
variable {P : Program} {af : AF} {d : Option Tmp} {ty t : TypeId} {pos : String} {after : Array Edge} {g : Option (Nat × Bool)} {n : Nat} {K : AF → Prop} {x : Operand}
end
end Go.Proofs.YtdbnodliomlilaaGreat
/- Appending what another row in use holds. -/
namespace Go.Proofs.YtdbnodliomlilaaGreat
open Go.RowKit

section
variable {P : Program} {af : AF} {σ ρ : Items} {d : Option Tmp} {ty t e : TypeId} {pos : String} {after : Array Edge} {g : Option (Nat × Bool)} {α : Type} {n : Nat} {enc : α → List AV} {xs ys : List α} {v : Value} {K : AF → Items → Prop}
/-- x reads as ys, while the things in use stand. -/
def BorL (σ : Items) (x : AV) (n : Nat) (enc : α → List AV) (ys : List α) : Prop := ∀ F w u, Good F σ w → x.p (both F (Items.own σ)) w u →
  ∃ A c, u = .slice A ys.length c ∧ ys.length ≤ c ∧ (ys ≠ [] → ∃ b off, A = some ⟨b, off, none⟩ ∧ ∀ (i : Nat) (y : α), ys[i]? = some y → (enc y).length = n ∧ CellsAt (both F (Items.own σ)) w b (off + i * n) (enc y))
theorem BorL.vec (hm : vecT P e n enc v xs ∈ σ) (he : ∀ x, (enc x).length = n) : BorL σ (.exact v) n enc xs := fun F w u hg hx => by
  obtain rfl : u = v := hx
  have hit := hg.items _ hm
  by_cases hne : xs = []
  · subst hne
    obtain ⟨us, hown, _⟩ := hit
    rcases hown.2 with ⟨rfl, _⟩ | ⟨b, cap, cur, rfl, _⟩
    · exact ⟨_, _, rfl, Nat.zero_le _, fun h => absurd rfl h⟩
    · exact ⟨_, _, rfl, Nat.zero_le _, fun h => absurd rfl h⟩
  · obtain ⟨b, c, cur, us, rfl, hb, hnc, _, hcs, htk, hfit⟩ := vec_cells hit hne
    refine ⟨_, _, rfl, hnc, fun _ => ⟨b, 0, rfl, ?_⟩⟩
    have hcells := cells_of_fit (b := b) (off := 0) hfit (fun j u hu => by
      have hj : j < us.length := (List.getElem?_eq_some_iff.1 hu).1
      rw [Nat.zero_add, cell_of_row _ b _ _ _ (0, 0) hb]
      rw [← htk, List.getElem?_take] at hu
      split at hu
      · simpa using hu
      · cases hu)
    intro i x hx
    exact ⟨he x, hcells.sub (fun j a hj => flat_get (fun x _ => he x) hx j a hj)⟩
theorem BorL.vsub {lo m : Nat} (hm : vecT P e n enc v xs ∈ σ) (he : ∀ x, (enc x).length = n) (hl : lo + m ≤ xs.length) : BorL σ (.vsub v n lo m) n enc ((xs.drop lo).take m) := fun F w u hg hx => by
  obtain ⟨A, l, c, rfl, hc1, hc2, rfl⟩ := hx
  obtain ⟨A', c', hv, h1, h4⟩ := BorL.vec (w := w) hm he F _ hg rfl
  injection hv with g1 g2 g3
  subst g1 g2 g3
  have hlen : ((xs.drop lo).take m).length = m := by simp; omega
  refine ⟨(if c = lo then A else A.map (·.add (lo * n))), c - lo, by rw [hlen], by rw [hlen]; exact hc2, fun hne => ?_⟩
  have hxs : xs ≠ [] := by rintro rfl; simp at hne
  obtain ⟨b, off, rfl, hcell⟩ := h4 hxs
  have hpos : 0 < m := by
    rcases Nat.eq_zero_or_pos m with h | h
    · subst h; simp at hne
    · exact h
  rw [if_neg (by omega)]
  refine ⟨b, off + lo * n, by simp [addr_add'], fun q x hq => ?_⟩
  have hq' : xs[lo + q]? = some x := by
    rw [List.getElem?_take] at hq
    split at hq
    · rwa [List.getElem?_drop] at hq
    · cases hq
  obtain ⟨g1, g2⟩ := hcell _ _ hq'
  refine ⟨g1, ?_⟩
  have e : off + (lo + q) * n = off + lo * n + q * n := by rw [Nat.add_mul]; omega
  rwa [e] at g2
end
end Go.Proofs.YtdbnodliomlilaaGreat
/- Arguments of any plain type opened: what their readings hold; the closing of a row. -/
namespace Go.Proofs.YtdbnodliomlilaaGreat
open Go.ChangeShapes Go.WideShapes Go.ChangeAt Go.RowKit Go.Deep

theorem Tryz.own : ownKnob Tryz.prog.godebug = none := by kernel_rfl
theorem Tryz.laidOut : laidOutB Tryz.prog = true := by kernel_rfl
theorem Keeps.below {w w' : World} (h : Keeps noB w w') : Below w.heap.size w w' := ⟨h.os, h.tape, h.output, h.size, fun k hk => h.block k hk (fun hf => hf)⟩

section
variable {P : Program} {t e : TypeId} {α β γ δ : Type}
/-- What is read at type t is an x of size sz x. -/
def Opens (P : Program) (t : TypeId) (n : Nat) (enc : α → List AV) (sz : α → Nat) (Q : α → Prop) : Prop :=
  ∀ {H : Type} (e0 : TypeId × Value → H) (W : World) (fuel : Nat) (cs : List Value) (y : DataW H × List MemPlace), DataW.trod e0 P W 0 (fun _ => true) true fuel t cs = some y → ∃ x : α, Q x ∧ cs.length = n ∧ Fit noB W (enc x) cs ∧ sz x ≤ Rows.uptoBulk y.1
theorem opens_int {k : IntKind} (ht : P.underlying t = some (.int k)) : Opens P t 1 (fun x : Int => [.exact (.int k x)]) (fun _ => 1) (fun x => (Lit.int k x).wf = true) := fun e0 W fuel cs y h => by
  obtain ⟨n, rfl, rfl, hw⟩ := DataW.trod_int ht h
  exact ⟨n, hw, rfl, ⟨rfl, trivial⟩, by simp [Rows.uptoBulk]⟩
theorem opens_u8 (ht : P.underlying t = some (.int .u8)) : Opens P t 1 (fun x : UInt8 => [.exact (.int .u8 (x.toNat : Int))]) (fun _ => 1) (fun _ => True) := fun e0 W fuel cs y h => by
  obtain ⟨n, rfl, rfl, hw⟩ := DataW.trod_int ht h
  have h' : 0 ≤ n ∧ n ≤ 255 := by simpa [Lit.wf, IntKind.min, IntKind.max, IntKind.signed, IntKind.bits] using hw
  have h2 : ((UInt8.ofNat n.toNat).toNat : Int) = n := by
    simp only [UInt8.toNat_ofNat']
    omega
  refine ⟨UInt8.ofNat n.toNat, trivial, rfl, ⟨?_, trivial⟩, by simp [Rows.uptoBulk]⟩
  show Value.int .u8 n = .int .u8 ((UInt8.ofNat n.toNat).toNat : Int)
  rw [h2]
theorem list_of {R : Nat → α → Prop} : ∀ n : Nat, (∀ i, i < n → ∃ x, R i x) → ∃ xs : List α, xs.length = n ∧ ∀ i x, xs[i]? = some x → R i x
  | 0, _ => ⟨[], rfl, fun i x h => by simp at h⟩
  | n + 1, h => by
    obtain ⟨xs, hl, hx⟩ := list_of n (fun i hi => h i (by omega))
    obtain ⟨x, hr⟩ := h n (by omega)
    refine ⟨xs ++ [x], by simp [hl], fun i y hy => ?_⟩
    rw [List.getElem?_append] at hy
    split at hy
    · exact hx i y hy
    · rename_i hge
      have : i = n := by
        have := (List.getElem?_eq_some_iff.1 hy).1
        simp at this; omega
      subst this
      simp [hl] at hy; subst hy; exact hr
/-- The size of a list. -/
def szL (sz : α → Nat) (xs : List α) : Nat := (xs.map sz).sum
theorem bulk_elems {H : Type} {sz : α → Nat} : ∀ (xs : List α) (n : Nat) (D : Nat → DataW H), xs.length = n → (∀ i x, xs[i]? = some x → sz x ≤ Rows.uptoBulk (D i)) → szL sz xs ≤ Rows.uptoBulkAll ((List.range n).map D)
  | xs, n, D, hl, h => by
    subst hl
    induction xs generalizing D with
    | nil => simp [szL]
    | cons x xs ih =>
      have h0 := h 0 x rfl
      have h1 := ih (fun i => D (i + 1)) (fun i y hy => h (i + 1) y (by simpa using hy))
      rw [List.length_cons, List.range_succ_eq_map, List.map_cons, List.map_map]
      simp only [szL, List.map_cons, List.sum_cons, Rows.uptoBulkAll] at h1 ⊢
      exact Nat.add_le_add h0 h1
theorem opens_slice {n : Nat} {enc : α → List AV} {sz : α → Nat} {Q : α → Prop} (ht : P.underlying t = some (.slice e)) (hc : P.cellsOf e = n) (hn : 0 < n) (hx : Opens P e n enc sz Q) :
    Opens P t 1 (fun xs : List α => [.row n enc xs]) (fun xs => szL sz xs + 1) (fun xs => xs.length ≤ maxLen ∧ ∀ x ∈ xs, Q x) := fun e0 W fuel cs y h => by
  rcases open_slice ht h with ⟨rfl, rfl⟩ | ⟨a, len, cap, m, k, D, Pl, rfl, _, hl, hm, hmm, rfl, hel⟩
  · exact ⟨[], ⟨by simp, by simp⟩, rfl, ⟨⟨none, 0, rfl, by simp, by simp, fun h => absurd rfl h⟩, trivial⟩, by simp [szL, Rows.uptoBulk]⟩
  · simp only [if_true] at hmm
    obtain ⟨xs, hxl, hxs⟩ := list_of (R := fun i x => Q x ∧ sz x ≤ Rows.uptoBulk (D i) ∧ ∃ cs', cs'.length = n ∧ Fit noB W (enc x) cs' ∧ ∀ j, j < n → W.cell? ((a.add (i * n)).add j) = cs'[j]?) len (fun i hi => by
      obtain ⟨cs', h1, h2⟩ := hel i (by omega)
      obtain ⟨x, q, l, f, s⟩ := hx e0 W _ _ _ h2
      rw [hc] at h1
      obtain ⟨_, hcl, hat⟩ := World.cells?_some h1
      exact ⟨x, q, s, cs', hcl, f, hat⟩)
    refine ⟨xs, ⟨by omega, fun x hxm => ?_⟩, rfl, ⟨?_, trivial⟩, ?_⟩
    · obtain ⟨i, hi⟩ := List.mem_iff_getElem?.1 hxm
      exact (hxs i x hi).1
    · unfold maxLen at hm
      refine ⟨some a, cap, by rw [hxl], by omega, by omega, fun hne => ?_⟩
      have hpos : 0 < xs.length := List.length_pos_iff.2 hne
      obtain ⟨_, _, c0, hc0, _, ha0⟩ := hxs 0 xs[0] (List.getElem?_eq_getElem hpos)
      have h00 := ha0 0 hn
      rw [List.getElem?_eq_getElem (by omega)] at h00
      obtain ⟨b, off, spot⟩ := a
      have hspot : spot = none := by simpa [Addr.add] using World.cell?_spot h00
      subst hspot
      refine ⟨b, off, rfl, ?_, fun hf => hf, fun i x hi => ?_⟩
      · have := World.block_lt_of_cell? W _ h00
        simpa [Addr.add] using this
      · obtain ⟨_, _, cs', hcl, hf, hat⟩ := hxs i x hi
        have hle : (enc x).length = n := by rw [hf.length, hcl]
        refine ⟨hle, cells_of_fit hf (fun j u hu => ?_)⟩
        have hj : j < n := by rw [← hcl]; exact (List.getElem?_eq_some_iff.1 hu).1
        have := hat j hj
        rw [hu] at this
        rw [← this, addr_add', addr_add']
    · have := bulk_elems xs len D hxl (fun i x hi => (hxs i x hi).2.1)
      simp only [Rows.uptoBulk]
      omega
/-- An argument that is one value, no aggregate. -/
theorem arg_open {n : Nat} {enc : α → List AV} {sz : α → Nat} {Q : α → Prop} (h : Opens P t n enc sz Q) {H : Type} {e0 : TypeId × Value → H} {W : World} {v : Value} {d : DataW H} {p : List MemPlace} (hv : v.cells = #[v]) (hd : DataW.Trod e0 P W 0 (fun _ => true) true t v d p) :
    ∃ x : α, Q x ∧ Fit noB W (enc x) [v] ∧ sz x ≤ Rows.uptoBulk d := by
  obtain ⟨fuel, hf⟩ := hd
  rw [hv] at hf
  obtain ⟨x, q, _, k, s⟩ := h e0 W _ _ _ hf
  exact ⟨x, q, k, s⟩
theorem plain_slice {W : World} {v : Value} (ht : P.underlying t = some (.slice e)) (h : Value.okWide P W .any 0 t v) : v.cells = #[v] := by
  obtain ⟨a, n, c, rfl⟩ := okWide_slice ht h; rfl
end

theorem post_of_below {H : Type} {enc : TypeId × Value → H} {P : Program} {f : Func} {s : ChangeSpec} {apart fresh handsOn again : Bool} {W W' : World} {args : Array Value} {v : Value} {ds gs : List (DataW H)} {before pa pv : List MemPlace}
    (hW : DataW.Whole enc P f.params.toList s.vars apart W args.toList ds gs before)
    (hres : ∀ (b : Nat) (sp : Nat → Bool) (hd : Bool), DataW.TrodAll enc P W' b sp hd f.resultTypes.toList (v.resultList f.resultTypes.size) (s.fn H (ds ++ gs)).results [])
    (hargs : ∀ sp : Nat → Bool, (∀ p ∈ before, sp p.block = true) → DataW.TrodAll enc P W' 0 sp true f.params.toList args.toList (s.fn H (ds ++ gs)).args pa)
    (hvars : ∀ sp : Nat → Bool, (∀ p ∈ before, sp p.block = true) → DataW.TrodVars enc P W' sp s.vars (s.fn H (ds ++ gs)).vars pv)
    (hps : before = pa ++ pv) (hb : Below W.heap.size W W')
    (hok : ∀ (j : Nat) (t : TypeId) (r : Value), f.resultTypes[j]? = some t → (v.resultList f.resultTypes.size)[j]? = some r → Value.okWide P W' .any 0 t r) :
    s.post enc P f apart fresh handsOn again W args v W' := by
  have hlt : ∀ p ∈ before, p.block < W.heap.size := fun p hp => hW.lt p hp
  have hold : ∀ p ∈ before, (fun b => decide (b < W.heap.size)) p.block = true := fun p hp => by simpa using hlt p hp
  refine ⟨ds, gs, before, [], pa, pv, hW, hres _ _ _, hargs _ hold, hvars _ hold, World.keptBut_mono (fun p hp => ⟨hp, ?_⟩) (hb.frame (· ∈ before)), fun _ => ?_⟩
  · rw [hps, List.mem_append] at hp
    exact Or.inr hp
  · obtain ⟨_, _, _, _, _, hz, hn⟩ := hW
    refine ⟨hok, _, _, ([] ++ pa) ++ pv, ⟨[] ++ pa, pv, trodAll_append (hargs _ (fun _ _ => rfl)) (hres _ _ _), hvars _ (fun _ _ => rfl), rfl, ?_, ?_⟩, ?_⟩
    · intro b off hp
      have hin : MemPlace.cell b off ∈ before := by rw [hps]; simpa using hp
      rw [hb.frozen (hlt _ hin)]
      exact hz b off hin
    · intro ha
      have := hn ha
      rw [hps] at this
      simpa using this
    · intro p hp _
      rw [hps]
      simpa using hp

/-- A reading behind the call, whatever places are spare. -/
theorem trod_after {H : Type} {enc : TypeId × Value → H} {t : TypeId} (hr : Tryz.prog.readableRec t = true) (hrow : t < Tryz.prog.types.size) {W W' : World} {v : Value} {d : DataW H} {ps before : List MemPlace}
    (h : DataW.Trod enc Tryz.prog W 0 (fun _ => true) true t v d ps) (hb : Below W.heap.size W W') (hlt : ∀ x ∈ ps, x.block < W.heap.size) (hin : ∀ x ∈ ps, x ∈ before) (sp : Nat → Bool) (hsp : ∀ p ∈ before, sp p.block = true) :
    DataW.Trod enc Tryz.prog W' 0 sp true t v d ps :=
  WideElems.Trod_stays Tryz.laidOut hr hrow h (fun x hx => hb.same (hlt x hx)) (fun x hx => hsp x (hin x hx))

/-- The call of a function that touches nothing. -/
theorem Pure.call {P : Program} {f : FuncId} {args : List AV} {r : Value} (h : Pure P f args (.exact r)) {W : World} {vs : List Value} (hv : Fit noB W args vs) : Calls P f vs.toArray W (fun e w' => e = .returned r ∧ Below W.heap.size W w') :=
  (h noB W vs (fun _ hk => hk.elim) hv).mono fun e w' ⟨v, e1, e2, e3⟩ => ⟨by rw [e1]; exact congrArg _ e3, e2.below⟩
end Go.Proofs.YtdbnodliomlilaaGreat
/- copy within a row in use; arrays in use; a row cut to its length. -/
namespace Go.Proofs.YtdbnodliomlilaaGreat
open Go.RowKit

section
variable {P : Program} {af : AF} {σ ρ : Items} {d : Option Tmp} {ty t e : TypeId} {pos : String} {after : Array Edge} {g : Option (Nat × Bool)} {α : Type} {n : Nat} {enc : α → List AV} {xs ys : List α} {v : Value}
theorem loadCells_list {w : World} {b o : Nat} (us : List Value) (h : ∀ j, j < us.length → ∃ u, us[j]? = some u ∧ w.cell? ⟨b, o + (0 + j), none⟩ = some u) : (loadCells ⟨b, o, none⟩ us.length).run P w = .ok us.toArray w := by
  have := run_cells (P := P) (w := w) (b := b) us.length o 0 us #[] h rfl
  unfold loadCells
  rw [this]; simp
theorem op_copy {lo1 m1 lo2 m2 q : Nat} {x y : Operand} {t2 : TypeId} {K : AF → Items → Prop} (hE : elB P t n = true) (hE2 : elB P t2 n = true) (he : ∀ x, (enc x).length = n) (ho : ∀ x, OneC (enc x)) (hx : af.ev x = .vsub v n lo1 m1) (hy : af.ev y = .vsub v n lo2 m2) (hl1 : lo1 + m1 ≤ xs.length) (hl2 : lo2 + m2 ≤ xs.length) (hq : Nat.min m2 m1 = q)
    (hk : K (af.put d (.exact (.int .i64 (q : Int)))) (vecT P e n enc v (xs.take lo1 ++ (xs.drop lo2).take q ++ xs.drop (lo1 + q)) :: ρ)) : opB P ⟨d, .call { callee := .builtin .copy, args := #[x, y], argTypes := #[t, t2] }, ty, pos, after, g⟩ af (vecT P e n enc v xs :: ρ) K := by
  refine ⟨fun a s => a = .exact (.int .i64 (q : Int)) ∧ s = vecT P e n enc v (xs.take lo1 ++ (xs.drop lo2).take q ++ xs.drop (lo1 + q)) :: ρ, fun F w ev hg h => ?_, fun av s ⟨e1, e2⟩ => by subst e1 e2; exact hk⟩
  obtain ⟨ht, hn0, I, zz, hi, hz', hi1, hi2, hi3⟩ := elB_spec hE
  obtain ⟨A, l, c, hv, hc1, hc2, e1⟩ := opnd_p h (x := x) (by simp [Op.operands, Call.operands]) hx
  obtain ⟨A2, l2, c2, hv2, hc3, hc4, e2⟩ := opnd_p h (x := y) (by simp [Op.operands, Call.operands]) hy
  rw [hv] at hv2
  injection hv2 with q1 q2 q3
  subst q1 q2 q3
  have hq1 : q ≤ m1 := by rw [← hq]; exact Nat.min_le_right _ _
  have hq2 : q ≤ m2 := by rw [← hq]; exact Nat.min_le_left _ _
  have hlen : (xs.take lo1 ++ (xs.drop lo2).take q ++ xs.drop (lo1 + q)).length = xs.length := by simp; omega
  by_cases hm : q = 0
  · have hxs : xs.take lo1 ++ (xs.drop lo2).take 0 ++ xs.drop (lo1 + 0) = xs := by simp
    have hcl : (Builtin.copy_ #[t, t2] ty #[ev x, ev y]).run P w = .ok (.int .i64 ((0 : Nat) : Int)) w := by
      rw [e1, e2]
      have hq0 : Nat.min m2 m1 = 0 := by omega
      split <;> split <;> (try cases A) <;> simp [Builtin.copy_, run_underlying ht, Builtin.lenOf, Builtin.firstCells, sizeOf, typeInfo, hi, hq0, loadCells, loadCellsFrom, storeCells, goInt]
    have hrun : (execOp ev ⟨d, .call { callee := .builtin .copy, args := #[x, y], argTypes := #[t, t2] }, ty, pos, after, g⟩).run P w = .ok (.value (.int .i64 ((0 : Nat) : Int))) w := by
      unfold execOp
      simp only [resolve, invoke, builtin, Sem.run_bind, Sem.run_pure, Result.andThen_ok, List.map_toArray, List.map_cons, List.map_nil, hcl]
    rw [hrun]
    subst hm
    refine ⟨_, _, ⟨rfl, rfl⟩, by rw [hxs]; exact hg, (Keeps.refl noB w).mono (fun _ _ h => h.elim), by rw [hxs]; exact fun k h _ => h, rfl⟩
  · obtain ⟨b, c', cur, vs, hv', hb, hnc, hcm, hcs, htk, hfit⟩ := vec_cells (hg.items _ List.mem_cons_self) (by rintro rfl; simp at hl1; omega)
    rw [hv'] at hv
    injection hv with q1 q2 q3
    subst q1 q2 q3
    rw [if_neg (by omega)] at e1 e2
    have hadd : ∀ k, Option.map (fun x => x.add (k * n)) (some (⟨b, 0, none⟩ : Addr)) = some ⟨b, k * n, none⟩ := fun k => by simp [addr_add']
    rw [hadd] at e1 e2
    have hbm1 : (lo1 + m1) * n ≤ xs.length * n := Nat.mul_le_mul_right _ hl1
    have hbm2 : (lo2 + m2) * n ≤ xs.length * n := Nat.mul_le_mul_right _ hl2
    have hcn : xs.length * n ≤ cur.size := by rw [hcs]; exact Nat.mul_le_mul_right _ hnc
    have ha1 : (lo1 + m1) * n = lo1 * n + m1 * n := Nat.add_mul _ _ _
    have ha2 : (lo2 + m2) * n = lo2 * n + m2 * n := Nat.add_mul _ _ _
    have hqn1 : q * n ≤ m1 * n := Nat.mul_le_mul_right _ hq1
    have hqn2 : q * n ≤ m2 * n := Nat.mul_le_mul_right _ hq2
    have hvl : vs.length = xs.length * n := by rw [← hfit.length, flat_len (fun x _ => he x)]
    generalize hus : (vs.drop (lo2 * n)).take (q * n) = us
    have hul : us.length = q * n := by rw [← hus]; simp; omega
    have hfu : Fit (both F (Items.own (vecT P e n enc v xs :: ρ))) w (((xs.drop lo2).take q).flatMap enc) us := by
      have := (hfit.drop (lo2 * n)).take (q * n)
      rw [(flat_parts he xs lo2).2, (flat_parts he (xs.drop lo2) q).1, hus] at this
      exact this
    have h1c : ∀ u ∈ us, u.oneCell' = true := (OneC.flatT (xs := (xs.drop lo2).take q) ho).fit hfu
    have hld : (loadCells ⟨b, lo2 * n, none⟩ (q * n)).run P w = .ok us.toArray w := by
      rw [← hul]
      refine loadCells_list us (fun j hj => ?_)
      rw [hul] at hj
      have hjv : lo2 * n + j < vs.length := by omega
      obtain ⟨u, hu⟩ : ∃ u, vs[lo2 * n + j]? = some u := ⟨_, List.getElem?_eq_getElem hjv⟩
      refine ⟨u, by rw [← hus, List.getElem?_take, if_pos hj, List.getElem?_drop]; exact hu, ?_⟩
      rw [cell_of_row _ b _ _ _ (0, 0) hb, Nat.zero_add]
      have this := hu
      rw [← htk, List.getElem?_take] at this
      split at this
      · simpa using this
      · cases this
    have hst := run_storeCells_at (P := P) b (lo1 * n) (elemOfT P e) us 0 cur w hb (by omega) h1c
    simp only [Nat.add_zero, hul] at hst
    have hcl : (Builtin.copy_ #[t, t2] ty #[ev x, ev y]).run P w = .ok (.int .i64 (q : Int)) (w.setRow b (splc cur.toList (lo1 * n) us).toArray) := by
      rw [e1, e2]
      simp [Builtin.copy_, run_underlying ht, Builtin.lenOf, Builtin.firstCells, sizeOf, typeInfo, hi, hi1, hq, hld, hst, splc, hul, goInt]
    have hrun : (execOp ev ⟨d, .call { callee := .builtin .copy, args := #[x, y], argTypes := #[t, t2] }, ty, pos, after, g⟩).run P w = .ok (.value (.int .i64 (q : Int))) (w.setRow b (splc cur.toList (lo1 * n) us).toArray) := by
      unfold execOp
      simp only [resolve, invoke, builtin, Sem.run_bind, Sem.run_pure, Result.andThen_ok, List.map_toArray, List.map_cons, List.map_nil, hcl]
    rw [hrun]
    have hblt := (Array.getElem?_eq_some_iff.1 hb).1
    have hob : v.ownBlock = some b := by rw [hv']; rfl
    have hk : Keeps (fun k => k ∈ (vecT P e n enc v xs).own) w (w.setRow b (splc cur.toList (lo1 * n) us).toArray) := ⟨rfl, rfl, rfl, Nat.le_refl _, by simp, fun k hlt hn => by
      have hne : k ≠ b := fun e => hn (by simp [vecT, vecI, hob, e])
      simp [World.setRow, Array.getElem?_modify, Ne.symm hne]⟩
    have hqa : (lo1 + q) * n = lo1 * n + q * n := Nat.add_mul _ _ _
    have hsp : splc cur.toList (lo1 * n) us = splc (cur.toList.take (xs.length * n)) (lo1 * n) us ++ cur.toList.drop (xs.length * n) := by
      unfold splc
      rw [List.take_take, Nat.min_eq_left (by omega), List.append_assoc _ _ (cur.toList.drop (xs.length * n))]
      congr 1
      rw [List.drop_take]
      have h9 : lo1 * n + us.length + (xs.length * n - (lo1 * n + us.length)) = xs.length * n := by omega
      conv => rhs; rhs; rw [← h9, ← List.drop_drop]
      rw [List.take_append_drop]
    have hsl : (splc vs (lo1 * n) us).length = xs.length * n := by
      unfold splc; simp; omega
    have hX : Fit (both F (Items.own (vecT P e n enc v xs :: ρ))) w ((xs.take lo1 ++ (xs.drop lo2).take q ++ xs.drop (lo1 + q)).flatMap enc) (splc vs (lo1 * n) us) := by
      unfold splc
      rw [List.flatMap_append, List.flatMap_append, hul, ← hqa]
      have f1 := hfit.take (lo1 * n)
      rw [(flat_parts he xs lo1).1] at f1
      have f2 := hfit.drop ((lo1 + q) * n)
      rw [(flat_parts he xs (lo1 + q)).2] at f2
      exact (f1.app hfu).app f2
    have hnew : (w.setRow b (splc cur.toList (lo1 * n) us).toArray).ownsRow 0 (elemOfT P e) n v (xs.take lo1 ++ (xs.drop lo2).take q ++ xs.drop (lo1 + q)).length (splc vs (lo1 * n) us) := by
      refine ⟨by rw [hsl, hlen], .inr ⟨b, c', (splc cur.toList (lo1 * n) us).toArray, by rw [hlen]; exact hv', Nat.zero_le _, setRow_heap w b cur _ (elemOfT P e) _ hb, by rw [hlen]; exact hnc, hcm, ?_, ?_⟩⟩
      · unfold splc; simp; omega
      · rw [hlen, hsp, htk]
        simp [← hsl]
    obtain ⟨g1, g2, g3⟩ := good_head (it' := vecT P e n enc v (xs.take lo1 ++ (xs.drop lo2).take q ++ xs.drop (lo1 + q))) hg hk (fun k hk' => ⟨by simp [vecT, vecI, hob] at hk'; subst hk'; simpa using hblt, fun _ => by simp [vecT, vecI, hob] at hk' ⊢; exact hk'⟩) (by simp [vecT, vecI, hob])
      (fun hkk hMM => ⟨_, hnew, hX.keep hkk hMM⟩)
    exact ⟨_, _, ⟨rfl, rfl⟩, g1, g2, g3, rfl⟩

/-- make([]T, i): a new row in use, of zeros. -/
theorem op_make {x y : Operand} {i : Int} {k1 k2 : IntKind} {zr : α} {z : Value} {K : AF → Items → Prop} (hE : elB P t n = true) (hx : af.ev x = .exact (.int k1 i)) (hy : af.ev y = .exact (.int k2 i)) (h0 : 0 ≤ i) (h1 : i ≤ 137438953472) (he : ∀ x, (enc x).length = n)
    (hz : ∀ w, (zeroValue (elemOfT P t)).run P w = .ok z w) (hzf : ∀ M w, Fit M w (enc zr) z.cells.toList) (hk : ∀ v', K (af.put d (.exact v')) (vecT P t n enc v' (List.replicate i.toNat zr) :: σ)) :
    opB P ⟨d, .makeSlice t x y, ty, pos, after, g⟩ af σ K := by
  refine ⟨fun a s => ∃ v', a = .exact v' ∧ s = vecT P t n enc v' (List.replicate i.toNat zr) :: σ, fun F w ev hg h => ?_, fun av s ⟨v', e1, e2⟩ => by subst e1 e2; exact hk v'⟩
  obtain ⟨ht, hn0, I, zz, hi, hz', hi1, hi2, hi3⟩ := elB_spec hE
  have e1 := opnd h (x := x) (by simp [Op.operands]) hx
  have e2 := opnd h (x := y) (by simp [Op.operands]) hy
  have hzz : zz = z := by
    have a1 := run_zero (P := P) (t := elemOfT P t) (z := zz) (w := w) (by rw [hi]; exact hz')
    have a2 := hz w
    rw [a1] at a2
    injection a2
  subst hzz
  obtain ⟨m, rfl⟩ : ∃ m : Nat, i = m := ⟨i.toNat, by omega⟩
  have hb : (I.bytes : Int) * (m : Int) ≤ 281474976710656 := by
    have h9 : I.bytes * m ≤ 1024 * 137438953472 := Nat.mul_le_mul hi2 (by omega)
    rw [← Int.natCast_mul]
    generalize I.bytes * m = q at h9
    omega
  have hrun0 := run_make w t (elemOfT P t) I zz ht hi hz' k1 k2 (m : Int) (m : Int) h0 (Int.le_refl _) hb (by omega)
  simp only [Int.toNat_natCast] at hrun0
  have hmc : madeCells zz.cells (m * I.size) = Builtin.zeroCells zz.cells m := by
    rw [hi1]
    simp [madeCells, Builtin.zeroCells, hi3]
  rw [hmc] at hrun0
  have hrun : (execOp ev ⟨d, .makeSlice t x y, ty, pos, after, g⟩).run P w = .ok (.value (.slice (some ⟨w.heap.size, 0, none⟩) m m)) (w.alloc (.cells (Builtin.zeroCells zz.cells m) (elemOfT P t))) := by
    unfold execOp
    simp only [e1, e2, Sem.run_bind, hrun0, Result.andThen_ok, Sem.run_pure]
  rw [hrun]
  simp only [Int.toNat_natCast]
  have hb2 : (w.alloc (.cells (Builtin.zeroCells zz.cells m) (elemOfT P t))).heap[w.heap.size]? = some (.cells (Builtin.zeroCells zz.cells m) (elemOfT P t) (0, 0)) := heap_alloc_new w _
  have hzs : (Builtin.zeroCells zz.cells m).size = m * n := by simp [Builtin.zeroCells, hi3]
  exact out_new (post := fun a s => ∃ v', a = .exact v' ∧ s = vecT P t n enc v' (List.replicate m zr) :: σ) (it := vecT P t n enc (.slice (some ⟨w.heap.size, 0, none⟩) m m) (List.replicate m zr)) hg (by simp [vecT, vecI, Value.ownBlock])
    (fun M hM => ⟨(Builtin.zeroCells zz.cells m).toList, ⟨by simp [hzs], .inr ⟨w.heap.size, m, _, by simp, Nat.zero_le _, hb2, by simp, by simp only [maxLen]; omega, hzs, by rw [List.length_replicate, ← hzs, ← Array.length_toList, List.take_length]⟩⟩, fit_zeros (hzf _ _) m⟩) (fun M => rfl) ⟨_, rfl, rfl⟩
/-! ### Arrays in use: one cell an element -/
theorem arr_get [Inhabited α] {f : α → AV} {i : Int} (h0 : 0 ≤ i) (h1 : i < xs.length) : (xs.map f)[0 + i.toNat * 1]? = some (f (gi xs i)) := by
  rw [Nat.zero_add, Nat.mul_one, List.getElem?_map, gi_get h0 h1]; rfl
theorem arr_set_le {f : α → AV} {a : AV} {i : Int} (h0 : 0 ≤ i) (h1 : i < xs.length) : 0 + i.toNat * 1 + [a].length ≤ (xs.map f).length := by
  simp; omega
theorem arr_set {f : α → AV} {i : Int} {z : α} (h0 : 0 ≤ i) (h1 : i < xs.length) : splc (xs.map f) (0 + i.toNat * 1) [f z] = (xs.set i.toNat z).map f := by
  rw [Nat.zero_add, Nat.mul_one]
  have hi : i.toNat < xs.length := by omega
  rw [List.map_set, List.set_eq_take_append_cons_drop, if_pos (by simpa using hi)]
  simp [splc]
theorem les_rep {f : α → AV} {z : α} {u : Value} (h : f z = .exact u) : ∀ N : Nat, LEs ((List.replicate N u).map AV.exact) ((List.replicate N z).map f)
  | 0 => LEs.nil
  | N + 1 => by rw [List.replicate_succ, List.replicate_succ, List.map_cons, List.map_cons]; exact LEs.cons (AV.le_eq h.symm) (les_rep h N)
theorem op_allocA {K : AF → Items → Prop} {f : α → AV} (N : Nat) (z : α) (u : Value) {Z : Value} (hz : (P.info? t).bind (·.zero) = some Z) (hZ : Z.cells.toList = List.replicate N u) (hu : f z = .exact u) (hk : ∀ b, K (af.put d (pA b 0)) (boxI t b ((List.replicate N z).map f) :: σ)) :
    opB P ⟨d, .alloc t, ty, pos, after, g⟩ af σ K := op_alloc hz (by rw [hZ]; exact les_rep hu N) hk
end
end Go.Proofs.YtdbnodliomlilaaGreat
/- Appending a string's bytes. -/
namespace Go.Proofs.YtdbnodliomlilaaGreat
open Go.RowKit

section
variable {P : Program} {af : AF} {σ ρ : Items} {d : Option Tmp} {ty t u : TypeId} {pos : String} {after : Array Edge} {g : Option (Nat × Bool)} {xs ys : List UInt8} {v : Value} {K : AF → Items → Prop} {enc : UInt8 → List AV}
theorem fit_strCells {M : BSet} {w : World} (henc : ∀ x, enc x = [.exact (.int .u8 (x.toNat : Int))]) : ∀ ys : List UInt8, Fit M w (ys.flatMap enc) (ys.map fun b => Value.int .u8 b.toNat)
  | [] => trivial
  | y :: ys => by rw [List.flatMap_cons, henc, List.map_cons]; exact ⟨rfl, fit_strCells henc ys⟩
theorem loud_appendS {s x : Operand} {m : Nat} {c : List AV} (henc : ∀ x, enc x = [.exact (.int .u8 (x.toNat : Int))]) (hE : elB P t 1 = true) (hu : isStrB P u = true) (hz : (P.info? (elemOfT P t)).bind (·.zero) = some (.int .u8 0)) (hby : ((P.info? (elemOfT P t)).map (·.bytes)) = some 1)
    (hs : af.ev s = .exact v) (hx : af.ev x = .exact (.string (bs ys))) (hl : m + ys.length ≤ 137438953472) :
    Loud P ⟨d, .call { callee := .builtin .append, args := #[s, x], argTypes := #[t, u] }, ty, pos, after, g⟩ af (vecI P t v 1 m c :: ρ) (fun a σ' => ∃ v', a = .exact v' ∧ σ' = vecI P t v' 1 (m + ys.length) (c ++ ys.flatMap enc) :: ρ) := by
  intro F w ev hg h
  obtain ⟨ht, hn0, i, z, hi, hz', hi1, hi2, hi3⟩ := elB_spec hE
  have hus := isStrB_spec hu
  have e1 := opnd h (x := s) (by simp [Op.operands, Call.operands]) hs
  have e2 := opnd h (x := x) (by simp [Op.operands, Call.operands]) hx
  obtain ⟨xs, hown, hfit⟩ := hg.items (vecI P t v 1 m c) List.mem_cons_self
  rw [hi] at hz hby
  simp only [Option.bind_some, Option.map_some, Option.some.injEq] at hz hby
  have hsz : (bs ys).size = ys.length := by simp [ByteArray.size]
  have hrun : ∃ v' w', (Builtin.append_ #[t, u] ty #[v, .string (bs ys)]).run P w = .ok v' w' ∧ w'.ownsRow 0 (elemOfT P t) 1 v' (m + ys.length) (xs ++ ys.map fun b => Value.int .u8 b.toNat) ∧ w.grownBy w' v.ownBlock ∧ (v'.ownBlock = v.ownBlock ∨ v'.ownBlock = some w.heap.size) := by
    obtain ⟨v', w', h1, h2, h3, h4⟩ := Go.Lib.run_append_own_string (P := P) w 0 t u ty (elemOfT P t) i ht hus hi hz hi1 hby v m xs hown (bs ys) (by rw [hsz]; simp only [maxLen]; omega) (by rw [hsz]; omega) (Nat.zero_le _)
    rw [hsz] at h2
    refine ⟨v', w', h1, h2, h3, ?_⟩
    rcases hown.2 with ⟨rfl, rfl⟩ | ⟨q, cap, cur, rfl, _, hg, hnc, hcm, hcs, htake⟩
    · by_cases hm : (bs ys).size = 0
      · exact .inl (by rw [h4.2 ⟨rfl, hm⟩])
      · have hr := run_append_nil_string (P := P) w t u ty (elemOfT P t) i (.int .u8 0) ht hus hi hz (bs ys) (by omega) (by rw [hsz]; omega) (by rw [hby, hsz]; omega)
        rw [h1] at hr
        injection hr with a1 a2
        exact .inr (by rw [a1]; rfl)
    · by_cases hroom : m + (bs ys).size ≤ cap
      · have hr := Go.Lib.run_append_room_string (P := P) w t u ty (elemOfT P t) i ht hus hi hi1 q m cap cur hg (bs ys) hroom (by omega)
        rw [h1] at hr
        injection hr with a1 a2
        exact .inl (by rw [a1]; rfl)
      · have holds : ∀ j u, xs[j]? = some u → w.cell? ((⟨q, 0, none⟩ : Addr).add j) = some u := hown.cells (g := q) rfl
        have hr := Go.Lib.run_append_grow_string (P := P) w t u ty (elemOfT P t) i (.int .u8 0) ht hus hi hz ⟨q, 0, none⟩ m cap xs (by rw [hi1]; exact hown.1) holds (bs ys) (by omega) (by rw [hsz]; omega) (by rw [hby]; exact growslice_fits (by omega) (by rw [hsz]; omega))
        rw [h1] at hr
        injection hr with a1 a2
        exact .inr (by rw [a1]; rfl)
  obtain ⟨v', w', h1, h2, h3, h5⟩ := hrun
  have hf := fit_strCells (M := both F (Items.own (vecI P t v 1 m c :: ρ))) (w := w) henc ys
  have hrun' : (execOp ev ⟨d, .call { callee := .builtin .append, args := #[s, x], argTypes := #[t, u] }, ty, pos, after, g⟩).run P w = .ok (.value v') w' := by
    unfold execOp
    simp only [resolve, invoke, builtin, Sem.run_bind, Sem.run_pure, Result.andThen_ok, List.map_toArray, List.map_cons, List.map_nil, e1, e2, h1]
  rw [hrun']
  have hk : Keeps (fun k => k ∈ (vecI P t v 1 m c).own) w w' := ⟨h3.os, h3.tape, h3.output, run_drawn _ _ _ _ h1, h3.size, fun k hlt hn => h3.block k hlt (fun e => hn (by simp [vecI, ← e]))⟩
  obtain ⟨g1, g2, g3⟩ := good_head (it' := vecI P t v' 1 (m + ys.length) (c ++ ys.flatMap enc)) hg hk (fun k hk' => by
      have hk'' : v'.ownBlock = some k := by simpa [vecI] using hk'
      refine ⟨(h2.lt k hk'').2, fun hlt => ?_⟩
      rcases h5 with h5 | h5
      · simp [vecI, ← h5, hk'']
      · rw [h5] at hk''; injection hk'' with e; omega) (by cases h : v'.ownBlock <;> simp [vecI, h])
    (fun hkk hMM => ⟨_, h2, (hfit.keep hkk hMM).app (hf.keep hkk hMM)⟩)
  exact ⟨_, _, ⟨v', rfl, rfl⟩, g1, g2, g3, rfl⟩
theorem op_appTS {s z : Operand} (henc : ∀ x, enc x = [.exact (.int .u8 (x.toNat : Int))]) (hE : elB P t 1 = true) (hu : isStrB P u = true) (hz : (P.info? (elemOfT P t)).bind (·.zero) = some (.int .u8 0)) (hby : ((P.info? (elemOfT P t)).map (·.bytes)) = some 1)
    (hs : af.ev s = .exact v) (hx : af.ev z = .exact (.string (bs ys))) (hl : xs.length + ys.length ≤ LIM) (hk : ∀ v', K (af.put d (.exact v')) (vecT P t 1 enc v' (xs ++ ys) :: ρ)) :
    opB P ⟨d, .call { callee := .builtin .append, args := #[s, z], argTypes := #[t, u] }, ty, pos, after, g⟩ af (vecT P t 1 enc v xs :: ρ) K :=
  ⟨_, loud_appendS henc hE hu hz hby hs hx hl, fun av σ' ⟨v', e1, e2⟩ => by
    subst e1 e2
    have := hk v'
    unfold vecT at this
    rwa [List.length_append, List.flatMap_append] at this⟩
end
end Go.Proofs.YtdbnodliomlilaaGreat
/- Rows in use that lie anywhere within their block, with whatever spare. -/
namespace Go.Proofs.YtdbnodliomlilaaGreat
open Go.RowKit

/-- The slice value v, of n elements of size cells, owns its block; its cells are xs. -/
def ownsO (w : World) (e : TypeId) (size : Nat) (v : Value) (n : Nat) (xs : List Value) : Prop :=
  xs.length = n * size ∧
  ((v = .slice none 0 0 ∧ n = 0) ∨
   ∃ g o cap cur, v = .slice (some ⟨g, o, none⟩) n cap ∧ w.heap[g]? = some (.cells cur e (0, 0)) ∧ n ≤ cap ∧ cap ≤ maxLen ∧ o + cap * size ≤ cur.size ∧ (cur.toList.drop o).take (n * size) = xs)
theorem ownsO_of {w : World} {b : Nat} {e : TypeId} {size n : Nat} {v : Value} {xs : List Value} (h : w.ownsRow b e size v n xs) : ownsO w e size v n xs := by
  refine ⟨h.1, ?_⟩
  rcases h.2 with h | ⟨g, cap, cur, h1, _, h2, h3, h4, h5, h6⟩
  · exact .inl h
  · exact .inr ⟨g, 0, cap, cur, h1, h2, h3, h4, by omega, by simpa using h6⟩
theorem ownsO.cells {w : World} {e : TypeId} {size n g o l c : Nat} {xs : List Value} (h : ownsO w e size (.slice (some ⟨g, o, none⟩) l c) n xs) : ∀ j u, xs[j]? = some u → w.cell? ⟨g, o + j, none⟩ = some u := by
  intro j u hu
  rcases h.2 with ⟨h, _⟩ | ⟨g', o', cap, cur, hv, hg, _, _, _, ht⟩
  · cases h
  · injection hv with q1 q2 q3
    injection q1 with q1
    injection q1 with q1 q4
    subst q1 q4
    rw [cell_of_row w g (o + j) cur e (0, 0) hg]
    rw [← ht, List.getElem?_take] at hu
    split at hu
    · rw [List.getElem?_drop] at hu; simpa using hu
    · cases hu
theorem ownsO.lt {w : World} {e : TypeId} {size n : Nat} {v : Value} {xs : List Value} (h : ownsO w e size v n xs) : ∀ k, v.ownBlock = some k → k < w.heap.size := by
  intro k hk
  rcases h.2 with ⟨rfl, _⟩ | ⟨g, o, cap, cur, rfl, hg, _⟩
  · simp [Value.ownBlock] at hk
  · simp [Value.ownBlock] at hk
    subst hk
    exact (Array.getElem?_eq_some_iff.1 hg).1
def vecO {α : Type} (P : Program) (t : TypeId) (n : Nat) (enc : α → List AV) (v : Value) (xs : List α) : Item where
  own := v.ownBlock.toList
  p := fun M w => ∃ us, ownsO w (elemOfT P t) n v xs.length us ∧ Fit M w (xs.flatMap enc) us
  keep := fun {M M' w w'} hk hm ⟨us, h1, h2⟩ => by
    refine ⟨us, ⟨h1.1, ?_⟩, h2.keep (hk.mono (fun k _ h => h.1)) hm⟩
    rcases h1.2 with h3 | ⟨g, o, cap, cur, rfl, hg, r⟩
    · exact .inl h3
    · refine .inr ⟨g, o, cap, cur, rfl, ?_, r⟩
      rw [hk.block g (Array.getElem?_eq_some_iff.1 hg).1 (fun h => h.2 (by simp [Value.ownBlock]))]
      exact hg
section
variable {P : Program} {E : Env} {af : AF} {σ ρ : Items} {d : Option Tmp} {ty t : TypeId} {pos : String} {after : Array Edge} {g : Option (Nat × Bool)} {α : Type} {n : Nat} {enc : α → List AV} {xs ys : List α} {v : Value}
theorem SubU.toO : SubU af (vecT P t n enc v xs :: σ) af (vecO P t n enc v xs :: σ) := by
  intro E N a w hh
  have hown : ∀ k, Items.own (vecO P t n enc v xs :: σ) k ↔ Items.own (vecT P t n enc v xs :: σ) k := fun k => by rw [own_cons, own_cons]; simp [vecO, vecT, vecI]
  have hM : ∀ k, k < w.heap.size → both E.F (Items.own (vecO P t n enc v xs :: σ)) k → both E.F (Items.own (vecT P t n enc v xs :: σ)) k := fun k _ h => h.imp id (hown k).1
  refine ⟨hh.tmps, hh.defers, hh.kept, fun k h hlt => hh.old k ((hown k).1 h) hlt, ⟨hh.good.fr, fun k h => hh.good.own k ((hown k).1 h), ?_, fun it hi => ?_⟩, fun t => (af t).keep (Keeps.refl _ _) hM (hh.fits t)⟩
  · have := hh.good.nodup; rw [List.flatMap_cons] at this ⊢; exact this
  · rcases List.mem_cons.1 hi with rfl | hi
    · obtain ⟨us, h1, h2⟩ := hh.good.items _ List.mem_cons_self
      exact ⟨us, ownsO_of h1, h2.keep (Keeps.refl _ _) hM⟩
    · exact it.keep (Keeps.refl _ _) hM (hh.good.items it (List.mem_cons_of_mem _ hi))
theorem SubU.freezeO {s : Tmp} (hs : af s = .exact v) (he : ∀ x, (enc x).length = n) : SubU af (vecO P t n enc v xs :: σ) (af.put (some s) (.row n enc xs)) σ := by
  intro E N a w hh
  have hM : ∀ k, k < w.heap.size → both E.F (Items.own σ) k → both E.F (Items.own (vecO P t n enc v xs :: σ)) k := fun k _ h => h.imp id (fun h => own_cons.2 (.inr h))
  have hnd := hh.good.nodup
  rw [List.flatMap_cons, List.nodup_append] at hnd
  refine ⟨hh.tmps, hh.defers, hh.kept, fun k h hlt => hh.old k (own_cons.2 (.inr h)) hlt, ⟨hh.good.fr, fun k h => hh.good.own k (own_cons.2 (.inr h)), hnd.2.1, fun it hi => it.keep (Keeps.refl _ _) hM (hh.good.items it (List.mem_cons_of_mem _ hi))⟩, fun u => ?_⟩
  by_cases hu : u = s
  · subst hu
    rw [AF.put_same]
    have hv := hh.fits u
    rw [hs] at hv
    have hv' : a.tmps.getD u undef = v := hv
    rw [hv']
    obtain ⟨us, hown, hfit⟩ := hh.good.items (vecO P t n enc v xs) List.mem_cons_self
    have hown0 := hown
    rcases hown.2 with ⟨rfl, h0⟩ | ⟨gg, o, cap, cur, rfl, hg, hnc, hcm, _, htake⟩
    · have : xs = [] := List.length_eq_zero_iff.1 h0
      subst this
      exact ⟨none, 0, rfl, by simp, by simp, fun h => absurd rfl h⟩
    · refine ⟨some ⟨gg, o, none⟩, cap, rfl, hnc, by simp only [maxLen] at hcm; omega, fun _ => ⟨gg, o, rfl, (Array.getElem?_eq_some_iff.1 hg).1, ?_, fun i x hx => ?_⟩⟩
      · rintro (hF | hO)
        · exact (hh.good.own gg (own_cons.2 (.inl (by simp [vecO, Value.ownBlock])))).2 hF
        · exact hnd.2.2 gg (by simp [vecO, Value.ownBlock]) gg hO rfl
      · refine ⟨he x, ?_⟩
        have hcells := cells_of_fit (b := gg) (off := o) (hfit.keep (Keeps.refl _ _) hM) (fun j u hu => hown0.cells j u hu)
        exact hcells.sub (fun j a hj => flat_get (fun y _ => he y) hx j a hj)
  · rw [AF.put_other _ _ hu]
    exact (af u).keep (Keeps.refl _ _) hM (hh.fits u)
theorem op_len_O {x : Operand} {e : TypeId} {K : AF → Prop} (hB : isSliceB P t = true) (hx : af.ev x = .exact v) (hk : K (af.put d (.exact (.int .i64 (xs.length : Int))))) :
    opR P ⟨d, .call { callee := .builtin .len, args := #[x], argTypes := #[t] }, ty, pos, after, g⟩ af (vecO P e n enc v xs :: ρ) K := by
  refine ⟨_, fun F w ev hg h => ?_, hk⟩
  have e1 := opnd h (x := x) (by simp [Op.operands, Call.operands]) hx
  obtain ⟨e, hu⟩ := isSliceB_spec hB
  obtain ⟨vs, hown, _⟩ := hg.items _ List.mem_cons_self
  have hv : ∃ A c, v = .slice A xs.length c := by
    rcases hown.2 with ⟨rfl, h0⟩ | ⟨g, o, cap, cur, rfl, _⟩
    · exact ⟨none, 0, by rw [h0]⟩
    · exact ⟨_, _, rfl⟩
  obtain ⟨A, c, rfl⟩ := hv
  simp [execOp, resolve, invoke, builtin, Builtin.len_, e1, run_under hu, goInt, go_sem, UponQ]
  exact ⟨Keeps.refl _ _, rfl⟩

/-! ### Appending -/
theorem run_append_room_o {w : World} {t ty e : TypeId} {i : TypeInfo} (ht : P.underlying t = some (.slice e)) (hi : P.info? e = some i)
    {g o sLen sCap : Nat} {cur : Array Value} (hg : w.heap[g]? = some (.cells cur e (0, 0)))
    {a : Addr} {m c : Nat} {news : List Value} (hl : news.length = m * i.size) (hnews : ∀ j u, news[j]? = some u → w.cell? (a.add j) = some u) (h1 : ∀ u ∈ news, u.oneCell' = true)
    (hroom : sLen + m ≤ sCap) (hfit : o + sLen * i.size + news.length ≤ cur.size) :
    (Builtin.append_ #[t, t] ty #[.slice (some ⟨g, o, none⟩) sLen sCap, .slice (some a) m c]).run P w =
      .ok (.slice (some ⟨g, o, none⟩) (sLen + m) sCap) (w.setRow g (cur.toList.take (o + sLen * i.size) ++ news ++ cur.toList.drop (o + sLen * i.size + news.length)).toArray) := by
  have hf := run_firstCells_some (P := P) w i.size m a m c news hl hnews
  have hst := run_storeCells_at P g (o + sLen * i.size) e news 0 cur w hg (by simpa using hfit) h1
  simp only [Nat.add_zero] at hst
  simp [Builtin.append_, run_underlying ht, sizeOf, typeInfo, hi, Builtin.lenOf, hroom, hf, Addr.add_lit, hst]
/-- Appending to a row anywhere. -/
theorem run_append_o {w : World} {t ty e : TypeId} {i : TypeInfo} {z : Value} {size bytes : Nat} (ht : P.underlying t = some (.slice e)) (hi : P.info? e = some i) (hz : i.zero = some z)
    (hsize : i.size = size) (hby : i.bytes = bytes) (hzs : z.cells.size = size)
    {v : Value} {n : Nat} {xs : List Value} (hown : ownsO w e size v n xs)
    {a : Addr} {m c : Nat} {news : List Value} (hl : news.length = m * size) (hnews : ∀ j u, news[j]? = some u → w.cell? (a.add j) = some u) (h1 : ∀ u ∈ news, u.oneCell' = true)
    (h63 : n + m ≤ maxLen) (hbytes : (n + m) * bytes ≤ 140737488355328) :
    ∃ v' w', (Builtin.append_ #[t, t] ty #[v, .slice (some a) m c]).run P w = .ok v' w' ∧ ownsO w' e size v' (n + m) (xs ++ news) ∧ w.grownBy w' v.ownBlock ∧ (v'.ownBlock = v.ownBlock ∨ v'.ownBlock = some w.heap.size) := by
  subst hsize
  subst hby
  have hsmall : n + m ≤ 9223372036854775807 := by simp only [maxLen] at h63; omega
  have hlen : (xs ++ news).length = (n + m) * i.size := by rw [List.length_append, hown.1, hl, Nat.add_mul]
  have grown : ∀ (old : Nat), old < n + m → ∀ (row : Option Nat),
      ownsO (w.drew.alloc (.cells (xs.toArray ++ news.toArray ++ Builtin.zeroCells z.cells (grownCap w (n + m) old e - (n + m))) e)) e i.size
        (.slice (some ⟨w.heap.size, 0, none⟩) (n + m) (grownCap w (n + m) old e)) (n + m) (xs ++ news) ∧
      w.grownBy (w.drew.alloc (.cells (xs.toArray ++ news.toArray ++ Builtin.zeroCells z.cells (grownCap w (n + m) old e - (n + m))) e)) row := by
    intro old ho row
    have hge := grownCap_ge w (n + m) old e
    have hcm : grownCap w (n + m) old e ≤ maxLen := grownCap_le_maxLen w (n + m) old e h63
    have hsz : (xs.toArray ++ news.toArray ++ Builtin.zeroCells z.cells (grownCap w (n + m) old e - (n + m))).size = grownCap w (n + m) old e * i.size := by
      simp only [Array.size_append, List.size_toArray, size_zeroCells, hzs, hown.1, hl, ← Nat.add_mul]
      congr 1
      omega
    refine ⟨⟨hlen, .inr ⟨w.heap.size, 0, _, _, rfl, heap_alloc_new w.drew _, hge, hcm, by rw [hsz]; omega, ?_⟩⟩, ⟨rfl, rfl, rfl, by simp, fun k hk _ => heap_alloc_old w.drew _ hk⟩⟩
    simp only [Array.toList_append, List.append_assoc, List.drop_zero]
    rw [← List.append_assoc, ← hlen]
    exact List.take_left
  rcases hown.2 with ⟨rfl, rfl⟩ | ⟨gg, o, cap, cur, rfl, hg, hnc, hcm, hcs, htake⟩
  · have hx : xs = [] := List.eq_nil_of_length_eq_zero (by simpa using hown.1)
    subst hx
    by_cases hm : m = 0
    · subst hm
      have hn : news = [] := List.eq_nil_of_length_eq_zero (by simpa using hl)
      subst hn
      refine ⟨.slice none 0 0, w, ?_, ⟨by simp, .inl ⟨rfl, rfl⟩⟩, ⟨rfl, rfl, rfl, Nat.le_refl _, fun _ _ _ => rfl⟩, .inl rfl⟩
      simp [Builtin.append_, run_underlying ht, sizeOf, typeInfo, hi, Builtin.lenOf, Builtin.firstCells, loadCells, loadCellsFrom]
    · have hr := run_append_nil (P := P) w t ty e i z ht hi hz a m c news hl hnews (by omega) (by omega) (by have hb := hbytes; simp only [Nat.zero_add] at hb; omega)
      have hgr := grown 0 (by omega) (Value.ownBlock (.slice none 0 0))
      simp only [Nat.zero_add, List.nil_append, Array.empty_append] at hgr ⊢
      exact ⟨_, _, hr, hgr.1, hgr.2, .inr rfl⟩
  · by_cases hroom : n + m ≤ cap
    · have hmul : (n + m) * i.size ≤ cap * i.size := Nat.mul_le_mul_right _ hroom
      have hnm := Nat.add_mul n m i.size
      have hfit : o + n * i.size + news.length ≤ cur.size := by omega
      have hr := run_append_room_o (P := P) (ty := ty) (c := c) ht hi hg hl hnews h1 hroom hfit
      refine ⟨_, _, hr, ⟨hlen, .inr ⟨gg, o, cap, _, rfl, setRow_heap w gg cur _ e _ hg, hroom, hcm, ?_, ?_⟩⟩, ⟨rfl, rfl, rfl, by simp, fun k _ hk => setRow_other w gg k _ (fun e => hk (by simp [Value.ownBlock, e]))⟩, .inl rfl⟩
      · simp only [List.size_toArray, List.length_append, List.length_take, List.length_drop, Array.length_toList]
        omega
      · have ht2 : cur.toList.take (o + n * i.size) = cur.toList.take o ++ xs := by rw [List.take_add, htake]
        have hol : (cur.toList.take o).length = o := by simp; omega
        simp only []
        rw [ht2, List.append_assoc, List.append_assoc, List.drop_left' hol, ← List.append_assoc, ← hlen]
        exact List.take_left
    · have holds : ∀ j u, xs[j]? = some u → w.cell? ((⟨gg, o, none⟩ : Addr).add j) = some u := fun j u hu => by rw [addr_add']; exact hown.cells j u hu
      have hr := run_append_grow (P := P) w t ty e i z ht hi hz ⟨gg, o, none⟩ n cap xs hown.1 holds a m c news hl hnews (by omega) (by omega) (growslice_fits (by omega) hbytes)
      have hgr := grown cap (by omega) (Value.ownBlock (.slice (some ⟨gg, o, none⟩) n cap))
      exact ⟨_, _, hr, hgr.1, hgr.2, .inr rfl⟩
theorem op_appO {s x : Operand} {K : AF → Items → Prop} (hB : elB P t n = true) (hs : af.ev s = .exact v) (hx : af.ev x = .row n enc ys) (ho : ∀ x, OneC (enc x)) (hl : xs.length + ys.length ≤ LIM)
    (hk : ∀ v', K (af.put d (.exact v')) (vecO P t n enc v' (xs ++ ys) :: ρ)) :
    opB P ⟨d, .call { callee := .builtin .append, args := #[s, x], argTypes := #[t, t] }, ty, pos, after, g⟩ af (vecO P t n enc v xs :: ρ) K := by
  refine ⟨fun a s => ∃ v', a = .exact v' ∧ s = vecO P t n enc v' (xs ++ ys) :: ρ, fun F w ev hg h => ?_, fun av s ⟨v', e1, e2⟩ => by subst e1 e2; exact hk v'⟩
  obtain ⟨ht, hn0, i, z, hi, hz, hi1, hi2, hi3⟩ := elB_spec hB
  have e1 := opnd h (x := s) (by simp [Op.operands, Call.operands]) hs
  obtain ⟨A, cp, e2, _, _, e5⟩ := opnd_p h (x := x) (by simp [Op.operands, Call.operands]) hx
  obtain ⟨us0, hown, hfit⟩ := hg.items (vecO P t n enc v xs) List.mem_cons_self
  have hbs : (xs.length + ys.length) * i.bytes ≤ 140737488355328 := Nat.le_trans (Nat.mul_le_mul hl hi2) (by simp only [LIM]; omega)
  have hrun : ∃ v' w' us, (Builtin.append_ #[t, t] ty #[v, .slice A ys.length cp]).run P w = .ok v' w' ∧ ownsO w' (elemOfT P t) n v' (xs.length + ys.length) (us0 ++ us) ∧ w.grownBy w' v.ownBlock ∧ (v'.ownBlock = v.ownBlock ∨ v'.ownBlock = some w.heap.size) ∧ Fit (both F (Items.own (vecO P t n enc v xs :: ρ))) w (ys.flatMap enc) us := by
    by_cases hy : ys = []
    · subst hy
      have happ : (Builtin.append_ #[t, t] ty #[v, .slice A ([] : List α).length cp]).run P w = .ok v w := by
        rcases hown.2 with ⟨rfl, h0⟩ | ⟨g, o, cap, cur, rfl, _, hnc, _⟩
        · rw [h0] at *
          cases A <;> simp [Builtin.append_, run_underlying ht, sizeOf, typeInfo, hi, Builtin.lenOf, Builtin.firstCells, loadCells, loadCellsFrom]
        · cases A <;> simp [Builtin.append_, run_underlying ht, sizeOf, typeInfo, hi, Builtin.lenOf, Builtin.firstCells, hnc, storeCells, loadCells, loadCellsFrom]
      exact ⟨v, w, [], happ, by simpa using hown, ⟨rfl, rfl, rfl, Nat.le_refl _, fun _ _ _ => rfl⟩, .inl rfl, trivial⟩
    · obtain ⟨b, off, rfl, hb, hnM, hcell⟩ := e5 hy
      have hcells := row_cells hcell
      obtain ⟨us, hf, hu⟩ := fit_cells hcells
      have hlen : (ys.flatMap enc).length = ys.length * n := flat_len (fun y hy => by
        obtain ⟨i, hi⟩ := List.mem_iff_getElem?.1 hy
        exact (hcell i y hi).1)
      obtain ⟨v', w', h1, h2, h3, h5⟩ := run_append_o (P := P) (ty := ty) (c := cp) ht hi hz hi1 rfl hi3 hown (a := ⟨b, off, none⟩) (m := ys.length) (news := us) (by rw [← hf.length, hlen])
        (fun j u hj => by
          rw [addr_add']
          have hjl : j < (ys.flatMap enc).length := by rw [hf.length]; exact (List.getElem?_eq_some_iff.1 hj).1
          obtain ⟨u', g1, g2⟩ := hu j hjl
          rw [hj] at g1
          injection g1 with g1
          rw [g1]; exact g2) ((OneC.flatT (xs := ys) ho).fit hf) (by simp only [maxLen, LIM] at *; omega) hbs
      exact ⟨v', w', us, h1, h2, h3, h5, hf⟩
  obtain ⟨v', w', us, h1, h2, h3, h5, hf⟩ := hrun
  have hrun' : (execOp ev ⟨d, .call { callee := .builtin .append, args := #[s, x], argTypes := #[t, t] }, ty, pos, after, g⟩).run P w = .ok (.value v') w' := by
    unfold execOp
    simp only [resolve, invoke, builtin, Sem.run_bind, Sem.run_pure, Result.andThen_ok, List.map_toArray, List.map_cons, List.map_nil, e1, e2, h1]
  rw [hrun']
  have hk' : Keeps (fun k => k ∈ (vecO P t n enc v xs).own) w w' := ⟨h3.os, h3.tape, h3.output, run_drawn _ _ _ _ h1, h3.size, fun k hlt hn => h3.block k hlt (fun e => hn (by simp [vecO, ← e]))⟩
  obtain ⟨g1, g2, g3⟩ := good_head (it' := vecO P t n enc v' (xs ++ ys)) hg hk' (fun k hk' => by
      have hk'' : v'.ownBlock = some k := by simpa [vecO] using hk'
      refine ⟨h2.lt k hk'', fun hlt => ?_⟩
      rcases h5 with h5 | h5
      · simp [vecO, ← h5, hk'']
      · rw [h5] at hk''; injection hk'' with e; omega) (by cases h : v'.ownBlock <;> simp [vecO, h])
    (fun hkk hMM => ⟨us0 ++ us, by rw [List.length_append]; exact h2, by rw [List.flatMap_append]; exact (hfit.keep hkk hMM).app (hf.keep hkk hMM)⟩)
  exact ⟨_, _, ⟨v', rfl, rfl⟩, g1, g2, g3, rfl⟩

/-! ### Only the length is remembered -/
/-! ### append(l[:i:i], l[j:]..) -/
/-- The first i elements of a row, without spare. -/
def AV.vclip (v : Value) (i : Nat) : AV := ⟨fun _ _ u => ∃ A l c, v = .slice A l c ∧ i ≤ l ∧ l ≤ c ∧ u = .slice A i i, fun _ _ h => h⟩
theorem op_slice3_vec {x hi m : Operand} {e : TypeId} {i : Int} {k1 k2 : IntKind} {K : AF → Prop} (hB : sliceB P t n = true) (hx : af.ev x = .exact v) (hhi : af.ev hi = .exact (.int k1 i)) (hm : af.ev m = .exact (.int k2 i)) (h0 : 0 ≤ i) (h1 : i ≤ xs.length)
    (hk : K (af.put d (.vclip v i.toNat))) : opR P ⟨d, .slice t x none (some hi) (some m), ty, pos, after, g⟩ af (vecT P e n enc v xs :: ρ) K := by
  refine ⟨_, fun F w ev hg h => ?_, hk⟩
  have e1 := opnd h (x := x) (by simp [Op.operands]) hx
  obtain ⟨vs, hown, _⟩ := hg.items _ List.mem_cons_self
  have hv : ∃ A c, v = .slice A xs.length c ∧ xs.length ≤ c := by
    rcases hown.2 with ⟨rfl, h0⟩ | ⟨g, cap, cur, rfl, _, _, hc, _⟩
    · exact ⟨none, 0, by rw [h0], by omega⟩
    · exact ⟨_, _, rfl, hc⟩
  obtain ⟨A, c, rfl, hc⟩ := hv
  obtain ⟨e, hu, hs⟩ := sliceB_spec hB
  obtain ⟨a, rfl⟩ := Int.eq_ofNat_of_zero_le h0
  simp only [Int.toNat_natCast]
  have h1' : a ≤ xs.length := by omega
  have hac : a ≤ c := by omega
  have em := opnd h (x := m) (by simp [Op.operands]) hm
  have eh := opnd h (x := hi) (by simp [Op.operands]) hhi
  have hrun : (execOp ev ⟨d, .slice t x none (some hi) (some m), ty, pos, after, g⟩).run P w = .ok (.value (.slice A a a)) w := by
    have hb : (Instr.sliceBounds true xs.length c none (some (ev hi)) (some (ev m))).run P w = .ok (0, a, a) w := by
      unfold Instr.sliceBounds
      simp [Instr.sliceBound, asIntOf, em, eh, hac, go_sem]
    unfold execOp
    simp only [Instr.sliceAt, Instr.slice, e1, Sem.run_bind, run_under hu, Result.andThen_ok, Option.map_some, Option.map_none, hb, run_size hs, Sem.run_pure, Nat.sub_zero, Nat.zero_mul]
    have hA : (if a = 0 then A else A.map (·.add 0)) = A := by
      split
      · rfl
      · cases A with
        | none => rfl
        | some a => simp [Addr.add]
    rw [hA]
  rw [hrun]
  exact ⟨Keeps.refl _ _, A, _, c, rfl, h1', hc, rfl⟩
theorem flat_take_drop (he : ∀ x, (enc x).length = n) : ∀ (ys : List α) (k : Nat), (ys.flatMap enc).take (k * n) = (ys.take k).flatMap enc ∧ (ys.flatMap enc).drop (k * n) = (ys.drop k).flatMap enc := by
  intro ys
  induction ys with
  | nil => simp
  | cons y ys ih =>
    intro k
    cases k with
    | zero => simp
    | succ k =>
      have e : (k + 1) * n = n + k * n := by rw [Nat.add_mul]; omega
      rw [List.flatMap_cons, e, ← he y, List.take_length_add_append, List.drop_length_add_append, he y, (ih k).1, (ih k).2]
      simp
theorem op_appclip {s z : Operand} {i lo m : Nat} {K : AF → Items → Prop} (hE : elB P t n = true) (he : ∀ x, (enc x).length = n) (ho : ∀ x, OneC (enc x)) (hs : af.ev s = .vclip v i) (hx : af.ev z = .vsub v n lo m) (h1 : i ≤ lo) (h2 : lo + m ≤ xs.length) (hl : xs.length ≤ LIM)
    (hk : ∀ v', K (af.put d (.exact v')) (vecO P t n enc v' (xs.take i ++ (xs.drop lo).take m) :: ρ)) : opB P ⟨d, .call { callee := .builtin .append, args := #[s, z], argTypes := #[t, t] }, ty, pos, after, g⟩ af (vecT P t n enc v xs :: ρ) K := by
  refine ⟨fun a s => ∃ v', a = .exact v' ∧ s = vecO P t n enc v' (xs.take i ++ (xs.drop lo).take m) :: ρ, fun F w ev hg h => ?_, fun av s ⟨v', e1, e2⟩ => by subst e1 e2; exact hk v'⟩
  obtain ⟨ht, hn0, I, zz, hi, hz, hi1, hi2, hi3⟩ := elB_spec hE
  obtain ⟨A, l, c, hv, hc1, hc2, e1⟩ := opnd_p h (x := s) (by simp [Op.operands, Call.operands]) hs
  obtain ⟨A', l', c', hv', hc1', hc2', e2⟩ := opnd_p h (x := z) (by simp [Op.operands, Call.operands]) hx
  rw [hv] at hv'
  injection hv' with q1 q2 q3
  subst q1 q2 q3
  obtain ⟨vs, hown, hfit⟩ := hg.items (vecT P t n enc v xs) List.mem_cons_self
  have hvl : vs.length = xs.length * n := by rw [← hfit.length, flat_len (fun x _ => he x)]
  have hlen : (xs.take i ++ (xs.drop lo).take m).length = i + m := by simp; omega
  have hflat : (xs.take i ++ (xs.drop lo).take m).flatMap enc = (xs.flatMap enc).take (i * n) ++ ((xs.flatMap enc).drop (lo * n)).take (m * n) := by
    rw [List.flatMap_append, (flat_take_drop he xs i).1, (flat_take_drop he xs lo).2, (flat_take_drop he (xs.drop lo) m).1]
  rcases hown.2 with ⟨hvv, h0⟩ | ⟨b, cap, cur, hvv, hb0, hg2, hnc, hcm, hcs, htk⟩
  · rw [hv] at hvv
    injection hvv with q1 q2 q3
    subst q1 q2 q3
    have hm0 : m = 0 := by omega
    have hi0 : i = 0 := by omega
    subst hm0 hi0
    have hrun : (execOp ev ⟨d, .call { callee := .builtin .append, args := #[s, z], argTypes := #[t, t] }, ty, pos, after, g⟩).run P w = .ok (.value (.slice none 0 0)) w := by
      have happ : (Builtin.append_ #[t, t] ty #[.slice none 0 0, .slice none 0 (0 - lo)]).run P w = .ok (.slice none 0 0) w := by
        simp [Builtin.append_, run_underlying ht, sizeOf, typeInfo, hi, Builtin.lenOf, Builtin.firstCells]
      unfold execOp
      simp only [resolve, invoke, builtin, Sem.run_bind, Sem.run_pure, Result.andThen_ok, List.map_toArray, List.map_cons, List.map_nil, e1, e2, Option.map_none, ite_self, happ]
    rw [hrun]
    have hxs : xs = [] := List.length_eq_zero_iff.1 h0
    subst hxs
    obtain ⟨g1, g2, g3⟩ := good_head (it' := vecO P t n enc (.slice none 0 0) ([] : List α)) hg ((Keeps.refl noB w).mono (fun _ _ h => h.elim)) (fun k hk' => by simp [vecO, Value.ownBlock] at hk') (by simp [vecO, Value.ownBlock]) (fun _ _ => ⟨[], ⟨by simp, .inl ⟨rfl, rfl⟩⟩, trivial⟩)
    refine ⟨_, _, ⟨_, rfl, rfl⟩, ?_, g2, ?_, rfl⟩
    · simpa using g1
    · simpa using g3
  · rw [hv] at hvv
    injection hvv with q1 q2 q3
    subst q1 q2 q3
    have hbm : (lo + m) * n ≤ xs.length * n := Nat.mul_le_mul_right _ h2
    have hbi : i * n ≤ lo * n := Nat.mul_le_mul_right _ h1
    have hcn : xs.length * n ≤ cur.size := by rw [hcs]; exact Nat.mul_le_mul_right _ hnc
    have hadd : (lo + m) * n = lo * n + m * n := Nat.add_mul _ _ _
    let us : List Value := (vs.drop (lo * n)).take (m * n)
    have hus : us.length = m * n := by simp [us]; omega
    have h1c : ∀ u ∈ us, u.oneCell' = true := ((OneC.flatT (xs := xs) ho).drop (lo * n)).take (m * n) |>.fit ((hfit.drop (lo * n)).take (m * n))
    have hblt := (Array.getElem?_eq_some_iff.1 hg2).1
    -- the first part, as a row of its own
    have hownO : ownsO w (elemOfT P t) n (.slice (some ⟨b, 0, none⟩) i i) i (vs.take (i * n)) := by
      have hic : i * n ≤ c * n := Nat.mul_le_mul_right _ (by omega)
      refine ⟨by rw [List.length_take]; omega, .inr ⟨b, 0, i, cur, rfl, hg2, Nat.le_refl _, by omega, by omega, ?_⟩⟩
      rw [List.drop_zero, ← htk, List.take_take, Nat.min_eq_left (by omega)]
    have hrun : ∃ v' w', (Builtin.append_ #[t, t] ty #[.slice (some ⟨b, 0, none⟩) i i, ev z]).run P w = .ok v' w' ∧ ownsO w' (elemOfT P t) n v' (i + m) (vs.take (i * n) ++ us) ∧ w.grownBy w' (some b) ∧ (v'.ownBlock = some b ∨ v'.ownBlock = some w.heap.size) := by
      by_cases hm0 : m = 0
      · subst hm0
        have hus0 : us = [] := List.length_eq_zero_iff.1 (by rw [hus]; simp)
        refine ⟨_, w, ?_, by rw [hus0]; simpa using hownO, ⟨rfl, rfl, rfl, Nat.le_refl _, fun _ _ _ => rfl⟩, .inl rfl⟩
        rw [e2]
        by_cases hcl : c = lo
        · simp [hcl, Builtin.append_, run_underlying ht, sizeOf, typeInfo, hi, Builtin.lenOf, Builtin.firstCells, storeCells, loadCells, loadCellsFrom]
        · simp [hcl, Builtin.append_, run_underlying ht, sizeOf, typeInfo, hi, Builtin.lenOf, Builtin.firstCells, storeCells, loadCells, loadCellsFrom]
      · have hz2 : ev z = .slice (some ⟨b, lo * n, none⟩) m (c - lo) := by
          rw [e2, if_neg (by omega)]; simp [addr_add']
        rw [hz2]
        obtain ⟨v', w', h1, h2, h3, h5⟩ := run_append_o (P := P) (ty := ty) (c := c - lo) ht hi hz hi1 rfl hi3 hownO (a := ⟨b, lo * n, none⟩) (m := m) (news := us) hus
          (fun j u hj => by
            rw [addr_add', cell_of_row _ b _ _ _ (0, 0) hg2]
            have hjm : j < m * n := by rw [← hus]; exact (List.getElem?_eq_some_iff.1 hj).1
            have hj2 : vs[lo * n + j]? = some u := by
              simp only [us] at hj
              rw [List.getElem?_take, if_pos hjm, List.getElem?_drop] at hj
              exact hj
            rw [← htk, List.getElem?_take] at hj2
            split at hj2
            · simpa using hj2
            · cases hj2) h1c (by simp only [maxLen, LIM] at *; omega) (Nat.le_trans (Nat.mul_le_mul (show i + m ≤ LIM by omega) hi2) (by simp only [LIM]; omega))
        exact ⟨v', w', h1, h2, h3, h5⟩
    obtain ⟨v', w', r1, r2, r3, r5⟩ := hrun
    have hrun' : (execOp ev ⟨d, .call { callee := .builtin .append, args := #[s, z], argTypes := #[t, t] }, ty, pos, after, g⟩).run P w = .ok (.value v') w' := by
      unfold execOp
      simp only [resolve, invoke, builtin, Sem.run_bind, Sem.run_pure, Result.andThen_ok, List.map_toArray, List.map_cons, List.map_nil, e1, r1]
    rw [hrun']
    have hk' : Keeps (fun k => k ∈ (vecT P t n enc v xs).own) w w' := ⟨r3.os, r3.tape, r3.output, run_drawn _ _ _ _ r1, r3.size, fun k hlt hn => r3.block k hlt (fun e => hn (by injection e with e; simp [vecT, vecI, hv, Value.ownBlock, e]))⟩
    obtain ⟨g1, g2, g3⟩ := good_head (it' := vecO P t n enc v' (xs.take i ++ (xs.drop lo).take m)) hg hk' (fun k hk' => by
        have hk'' : v'.ownBlock = some k := by simpa [vecO] using hk'
        refine ⟨r2.lt k hk'', fun hlt => ?_⟩
        rcases r5 with r5 | r5
        · rw [r5] at hk''; injection hk'' with e; simp [vecT, vecI, hv, Value.ownBlock, e]
        · rw [r5] at hk''; injection hk'' with e; omega) (by cases h : v'.ownBlock <;> simp [vecO, h])
      (fun hkk hMM => ⟨vs.take (i * n) ++ us, by rw [hlen]; exact r2, by
        rw [hflat]
        exact ((hfit.take (i * n)).app ((hfit.drop (lo * n)).take (m * n))).keep hkk hMM⟩)
    exact ⟨_, _, ⟨v', rfl, rfl⟩, g1, g2, g3, rfl⟩
end
end Go.Proofs.YtdbnodliomlilaaGreat
/- slices.SortFunc on a row in use, by the shelf's contract. -/
namespace Go.Proofs.YtdbnodliomlilaaGreat
open Go.RowKit Go.Sort

theorem keeps_grow {w w' : World} (h : Keeps noB w w') : ∃ q os, w' = grow (w.drewN q) os := by
  obtain ⟨h1, h2, h3, h4, h5, h6⟩ := h
  refine ⟨w'.drawn - w.drawn, w'.heap.extract w.heap.size w'.heap.size, ?_⟩
  have hheap : w'.heap = w.heap ++ w'.heap.extract w.heap.size w'.heap.size := by
    apply Array.ext_getElem?
    intro i
    by_cases hi : i < w.heap.size
    · rw [Array.getElem?_append_left hi]
      exact h6 i hi (fun hf => hf)
    · rw [Array.getElem?_append_right (by omega), Array.getElem?_extract]
      by_cases h7 : i < w'.heap.size
      · rw [if_pos (by omega)]; congr 1; omega
      · rw [if_neg (by omega), Array.getElem?_eq_none (by omega)]
  have hd : w'.drawn = w.drawn + (w'.drawn - w.drawn) := by omega
  cases w with
  | mk hp tp dr os out =>
    cases w' with
    | mk hp' tp' dr' os' out' =>
      simp only at h1 h2 h3 hheap hd
      subst h1 h2 h3
      unfold grow World.drewN
      simp only [World.mk.injEq, true_and, and_true]
      exact ⟨hheap, hd⟩

theorem fit_ex_eq {M : BSet} {w : World} : ∀ {l us : List Value}, Fit M w (l.map AV.exact) us → us = l
  | [], [], _ => rfl
  | a :: l, u :: us, h => by
    obtain ⟨h1, h2⟩ := h
    have h1' : u = a := h1
    rw [h1', fit_ex_eq h2]
theorem ex_fit_ex {M : BSet} {w : World} : ∀ (l : List Value), Fit M w (l.map AV.exact) l
  | [] => trivial
  | a :: l => ⟨rfl, ex_fit_ex l⟩

section
variable {α : Type} [Inhabited α] {enc : α → List Value} {k : Nat}
end
end Go.Proofs.YtdbnodliomlilaaGreat
/- slices.Sort and slices.SortFunc on a row in use of one cell an element, by the shelf's contracts. -/
namespace Go.Proofs.YtdbnodliomlilaaGreat
open Go.RowKit Go.Sort

theorem cmpLays1_pure {P : Program} {g : Nat} {α : Type} [Inhabited α] {e : α → Value} {cf : α → α → Int} {blk off size : Nat} {w : World}
    (h : ∀ x y, Pure P g [.exact (e x), .exact (e y)] (.exact (.int .i64 (cf x y)))) : CmpLays1 P g #[] e cf blk off size w := fun m os dk hs x y => by
  have := h x y noB (sortWorld e w blk off m dk os) [e x, e y] (fun _ hk => hk.elim) ⟨rfl, rfl, trivial⟩
  exact this.mono fun e w' ⟨v, e1, hk, e3⟩ => ⟨by rw [e1]; exact congrArg _ e3, keeps_grow hk⟩

theorem CmpOk.swo {α : Type} {c : α → α → Option Int} (h : CmpOk c) : SWO (ltOf (cfOf c)) := ⟨h.irrefl, h.trans, h.ntrans⟩
section
variable {α : Type} [Inhabited α] {e : α → Value} {P : Program}
theorem take_putCells1 (D : Array α) (cur : Array Value) (h : D.size ≤ cur.size) : (putCells e 0 D cur).toList.take D.size = D.toList.map e := by
  apply List.ext_getElem?
  intro j
  by_cases hj : j < D.size
  · rw [List.getElem?_take_of_lt hj, Array.getElem?_toList]
    simp [putCells, hj, show j < cur.size by omega]
  · rw [List.getElem?_take_eq_none (by omega), List.getElem?_eq_none (by simp; omega)]
/-- A call that sorts a row in use. -/
theorem sort1_fun {f : Nat} {rs : List Value} {S : List α → List α} (hS : ∀ zs, (S zs).length = zs.length) {encA : α → List AV} (hA : ∀ x, encA x = [.exact (e x)])
    (hC : ∀ (b c : Nat) (zs : List α) (w : World), zs ≠ [] → Go.Sort.Holds e w b 0 zs.toArray → b < w.heap.size → zs.length < 4611686018427387904 →
      Calls P f (.slice (some ⟨b, 0, none⟩) zs.length c :: rs).toArray w fun x w' => x = .returned (.tuple #[]) ∧ ∃ n os, w' = sortWorld e w b 0 n (S zs).toArray os)
    (hN : ∀ (p : Option Addr) (c : Nat) (w : World), Calls P f (.slice p 0 c :: rs).toArray w fun x w' => x = .returned (.tuple #[]) ∧ w' = w)
    (v : Value) (xs : List α) (hl : xs.length < 4611686018427387904) (t : TypeId) :
    Fun P f (.exact v :: rs.map AV.exact) [vecT P t 1 encA v xs] (fun a s => a = .tup [] ∧ s = [vecT P t 1 encA v (S xs)]) := by
  intro F w vs hg hfit
  have hS0 : S [] = [] := List.length_eq_zero_iff.1 (hS [])
  match vs, hfit with
  | v' :: us, ⟨e1, e2⟩ =>
  have e3 : us = rs := fit_ex_eq e2
  have e4 : v' = v := e1
  clear e1 e2
  subst e3 e4
  by_cases hx : xs = []
  · subst hx
    obtain ⟨us, hown, hf⟩ := hg.items _ List.mem_cons_self
    have hv : ∃ p cap, v' = .slice p 0 cap := by
      rcases hown.2 with ⟨rfl, _⟩ | ⟨q, cap, cur, rfl, _⟩
      · exact ⟨none, 0, rfl⟩
      · exact ⟨_, cap, rfl⟩
    obtain ⟨p, cap, rfl⟩ := hv
    refine (hN p cap w).mono fun x w' ⟨he, hw⟩ => ?_
    subst hw
    refine ⟨_, he, _, _, ⟨rfl, rfl⟩, ?_, (Keeps.refl noB w').mono (fun _ _ h => h.elim), ?_, ⟨[], rfl, trivial⟩⟩
    · rw [hS0]; exact hg
    · rw [hS0]; exact fun _ h _ => h
  · obtain ⟨b, c, cur, us, hv, hb, hnc, hcm, hcs, htk, hf⟩ := vec_cells (hg.items _ List.mem_cons_self) hx
    subst hv
    have hflat : ∀ ys : List α, ys.flatMap encA = (ys.map e).map AV.exact := by
      intro ys
      induction ys with
      | nil => rfl
      | cons y ys ih => rw [List.flatMap_cons, List.map_cons, List.map_cons, ih, hA]; rfl
    rw [hflat] at hf
    have hus := fit_ex_eq hf
    subst hus
    rw [Nat.mul_one] at htk hcs
    have hH : Go.Sort.Holds e w b 0 xs.toArray := by
      intro j hj
      have hj' : j < xs.length := by simpa using hj
      constructor
      · rw [cell_of_row _ b _ _ _ (0, 0) hb, Nat.zero_add]
        have e4 : (cur.toList.take xs.length)[j]? = (xs.map e)[j]? := by rw [htk]
        rw [List.getElem?_take_of_lt hj', List.getElem?_map, List.getElem?_eq_getElem hj'] at e4
        rw [getElem!_pos xs.toArray j (by simpa using hj')]
        simpa using e4
      · simp [World.frozen?, hb]
    have hblt := (Array.getElem?_eq_some_iff.1 hb).1
    refine (hC b c xs w hx hH hblt hl).mono fun x w' ⟨he, n, os, hw⟩ => ?_
    generalize hys : S xs = ys at hw ⊢
    have hyl : ys.length = xs.length := by rw [← hys]; exact hS xs
    subst hw
    have hheap : (sortWorld e w b 0 n ys.toArray os).heap[b]? = some (.cells (putCells e 0 ys.toArray cur) (elemOfT P t) (0, 0)) := by
      unfold sortWorld
      rw [heap_grow_old _ _ (by simpa using hblt)]
      simp [putRow, mapBlock, Sort.ahead, Array.getElem?_modify, hb, onCells]
    have hkp : Keeps (fun q => q ∈ (vecT P t 1 encA (.slice (some ⟨b, 0, none⟩) xs.length c) xs).own) w (sortWorld e w b 0 n ys.toArray os) := by
      refine ⟨rfl, rfl, rfl, Nat.le_add_right _ _, ?_, fun q hlt hn => ?_⟩
      · simp [sortWorld, grow]
      · have hne : q ≠ b := fun e => hn (by simp [vecT, vecI, Value.ownBlock, e])
        unfold sortWorld
        rw [heap_grow_old _ _ (by simpa using hlt)]
        simp [putRow, mapBlock, Sort.ahead, Array.getElem?_modify, Ne.symm hne]
    have hown : (sortWorld e w b 0 n ys.toArray os).ownsRow 0 (elemOfT P t) 1 (.slice (some ⟨b, 0, none⟩) xs.length c) ys.length (ys.map e) := by
      refine ⟨by simp, .inr ⟨b, c, _, by rw [hyl], Nat.zero_le _, hheap, by rw [hyl]; exact hnc, hcm, by simp [putCells, hcs], ?_⟩⟩
      have := take_putCells1 (e := e) ys.toArray cur (by simp [hyl]; omega)
      simpa using this
    obtain ⟨g1, g2, g3⟩ := good_head (it' := vecT P t 1 encA (.slice (some ⟨b, 0, none⟩) xs.length c) ys) hg hkp (fun q hq => ⟨by simp [vecT, vecI, Value.ownBlock] at hq; subst hq; simpa [sortWorld, grow] using Nat.lt_of_lt_of_le hblt (Nat.le_add_right _ _), fun _ => hq⟩) (by simp [vecT, vecI, Value.ownBlock])
      (fun hkk hMM => ⟨ys.map e, hown, by rw [hflat]; exact ex_fit_ex _⟩)
    exact ⟨_, he, _, _, ⟨rfl, rfl⟩, g1, g2, g3, ⟨[], rfl, trivial⟩⟩
theorem sortFunc1_fun {ρ : Go.Shelf.Ren} (L : SlLaysF.n6 P ρ) (L0 : SlLaysF0.n6 P ρ) {encA : α → List AV} (hA : ∀ x, encA x = [.exact (e x)]) (h1 : OneCell e) (cf : α → α → Int) (hO : SWO (ltOf cf)) (hT : ∀ x y, (ltOf cf) x y = false → (ltOf cf) y x = false → x = y) (g : Nat) (eg : ∀ args w, (callFunc g args).run P w = .ok (.enter g args) w)
    (hcmp : ∀ x y, Pure P g [.exact (e x), .exact (e y)] (.exact (.int .i64 (cf x y)))) (v : Value) (xs : List α) (hl : xs.length < 4611686018427387904) (t : TypeId) :
    Fun P (ρ.f 6) [.exact v, .exact (.func (.func g) #[] #[])] [vecT P t 1 encA v xs] (fun a s => a = .tup [] ∧ s = [vecT P t 1 encA v (xs.mergeSort fun x y => !(ltOf cf) y x)]) :=
  sort1_fun (rs := [.func (.func g) #[] #[]]) (S := fun zs => zs.mergeSort fun x y => !(ltOf cf) y x) (fun _ => List.length_mergeSort _) hA
    (fun b c zs w _ hH hb hz => by
      have := Any.slices_SortFunc_total L e h1 cf hO g #[] b 0 c zs.toArray w eg (cmpLays1_pure hcmp) hH hb (by simpa using hz) hT
      simpa using this) (fun p c w => AnyF.slices_SortFunc_none L0 p c (.func (.func g) #[] #[]) w) v xs hl t
theorem m_sortby1_ok {ρ : Go.Shelf.Ren} (L : SlLaysF.n6 P ρ) (L0 : SlLaysF0.n6 P ρ) {encA : α → List AV} (hA : ∀ x, encA x = [.exact (e x)]) (h1 : OneCell e) (g : Nat) (eg : ∀ args w, (callFunc g args).run P w = .ok (.enter g args) w) (t : TypeId) {c : α → α → Option Int}
    (hc : ∀ x y r, c x y = some r → Pure P g [.exact (e x), .exact (e y)] (.exact (.int .i64 r))) {v : Value} (xs r : List α) (h : m_sortby c xs = some r) :
    Fun P (ρ.f 6) [.exact v, .exact (.func (.func g) #[] #[])] [vecT P t 1 encA v xs] (fun a s => a = .tup [] ∧ s = [vecT P t 1 encA v r]) := by
  obtain ⟨hl, ho, rfl⟩ := m_sortby_some h
  exact sortFunc1_fun L L0 hA h1 (cfOf c) ho.swo ho.total g eg (fun x y => by
    obtain ⟨r, hr⟩ := ho.all x y
    have : cfOf c x y = r := by unfold cfOf; rw [hr]; rfl
    rw [this]; exact hc x y r hr) v xs hl t
end
end Go.Proofs.YtdbnodliomlilaaGreat
/- slices.SortFunc on a row in use of one cell an element, by a closure that may capture. -/
namespace Go.Proofs.YtdbnodliomlilaaGreat
open Go.RowKit Go.Sort

theorem cmpLays1_fn {P : Program} {g : Nat} {α : Type} [Inhabited α] {e : α → Value} {cf : α → α → Int} {b size : Nat} {w : World} {M : BSet} {caps : List Value} {avs : List AV} (hM : ∀ k, M k → k < w.heap.size) (hb : M b) (hf : Fit M w avs caps)
    (h : ∀ x y, Pure P g ([.exact (e x), .exact (e y)] ++ avs) (.exact (.int .i64 (cf x y)))) : CmpLays1 P g caps.toArray e cf b 0 size w := fun m os dk hs x y => by
  have hk : Keeps M w (sortWorld e w b 0 m dk os) := by
    refine ⟨rfl, rfl, rfl, Nat.le_add_right _ _, ?_, fun q hlt hn => ?_⟩
    · simp [sortWorld, grow]
    · have hne : q ≠ b := fun e => hn (by rw [e]; exact hb)
      unfold sortWorld
      rw [heap_grow_old _ _ (by simpa using hlt)]
      simp [putRow, mapBlock, Sort.ahead, Array.getElem?_modify, Ne.symm hne]
  have hf' : Fit M (sortWorld e w b 0 m dk os) avs caps := hf.keep hk (fun _ _ h => h)
  have := h x y M (sortWorld e w b 0 m dk os) ([e x, e y] ++ caps) (fun k hk' => Nat.lt_of_lt_of_le (hM k hk') (by simp [sortWorld, grow])) ((show Fit M _ [.exact (e x), .exact (e y)] [e x, e y] from ⟨rfl, rfl, trivial⟩).app hf')
  have e1 : ([e x, e y] ++ caps).toArray = #[e x, e y] ++ caps.toArray := by simp
  rw [e1] at this
  exact this.mono fun e w' ⟨v, e1, hk, e3⟩ => ⟨by rw [e1]; exact congrArg _ e3, keeps_grow hk⟩

section
variable {α : Type} [Inhabited α] {e : α → Value} {P : Program}
/-- A call that sorts a row in use; its other arguments fit what is said of them. -/
theorem sort1_funX {f : Nat} {as_ : List AV} {xs zs : List α} (hS : zs.length = xs.length) {encA : α → List AV} (hA : ∀ x, encA x = [.exact (e x)])
    (hC : ∀ (b c : Nat) (w : World) (M : BSet) (rs : List Value), M b → (∀ k, M k → k < w.heap.size) → Fit M w as_ rs → xs ≠ [] → Go.Sort.Holds e w b 0 xs.toArray → b < w.heap.size →
      Calls P f (.slice (some ⟨b, 0, none⟩) xs.length c :: rs).toArray w fun x w' => x = .returned (.tuple #[]) ∧ ∃ n os, w' = sortWorld e w b 0 n zs.toArray os)
    (hN : ∀ (p : Option Addr) (c : Nat) (w : World) (M : BSet) (rs : List Value), Fit M w as_ rs → Calls P f (.slice p 0 c :: rs).toArray w fun x w' => x = .returned (.tuple #[]) ∧ w' = w)
    (v : Value) (t : TypeId) :
    Fun P f (.exact v :: as_) [vecT P t 1 encA v xs] (fun a s => a = .tup [] ∧ s = [vecT P t 1 encA v zs]) := by
  intro F w vs hg hfit
  match vs, hfit with
  | v' :: rs, ⟨e1, e2⟩ =>
  have e4 : v' = v := e1
  clear e1
  subst e4
  by_cases hx : xs = []
  · subst hx
    have hz : zs = [] := List.length_eq_zero_iff.1 hS
    subst hz
    obtain ⟨us, hown, hf⟩ := hg.items _ List.mem_cons_self
    have hv : ∃ p cap, v' = .slice p 0 cap := by
      rcases hown.2 with ⟨rfl, _⟩ | ⟨q, cap, cur, rfl, _⟩
      · exact ⟨none, 0, rfl⟩
      · exact ⟨_, cap, rfl⟩
    obtain ⟨p, cap, rfl⟩ := hv
    refine (hN p cap w _ rs e2).mono fun x w' ⟨he, hw⟩ => ?_
    subst hw
    refine ⟨_, he, _, _, ⟨rfl, rfl⟩, ?_, (Keeps.refl noB w').mono (fun _ _ h => h.elim), ?_, ⟨[], rfl, trivial⟩⟩
    · exact hg
    · exact fun _ h _ => h
  · obtain ⟨b, c, cur, us, hv, hb, hnc, hcm, hcs, htk, hf⟩ := vec_cells (hg.items _ List.mem_cons_self) hx
    subst hv
    have hflat : ∀ ys : List α, ys.flatMap encA = (ys.map e).map AV.exact := by
      intro ys
      induction ys with
      | nil => rfl
      | cons y ys ih => rw [List.flatMap_cons, List.map_cons, List.map_cons, ih, hA]; rfl
    rw [hflat] at hf
    have hus := fit_ex_eq hf
    subst hus
    rw [Nat.mul_one] at htk hcs
    have hH : Go.Sort.Holds e w b 0 xs.toArray := by
      intro j hj
      have hj' : j < xs.length := by simpa using hj
      constructor
      · rw [cell_of_row _ b _ _ _ (0, 0) hb, Nat.zero_add]
        have e4 : (cur.toList.take xs.length)[j]? = (xs.map e)[j]? := by rw [htk]
        rw [List.getElem?_take_of_lt hj', List.getElem?_map, List.getElem?_eq_getElem hj'] at e4
        rw [getElem!_pos xs.toArray j (by simpa using hj')]
        simpa using e4
      · simp [World.frozen?, hb]
    have hblt := (Array.getElem?_eq_some_iff.1 hb).1
    refine (hC b c w _ rs (.inr (by simp [Items.own, vecT, vecI, Value.ownBlock])) hg.lt e2 hx hH hblt).mono fun x w' ⟨he, n, os, hw⟩ => ?_
    have hyl : zs.length = xs.length := hS
    subst hw
    have hheap : (sortWorld e w b 0 n zs.toArray os).heap[b]? = some (.cells (putCells e 0 zs.toArray cur) (elemOfT P t) (0, 0)) := by
      unfold sortWorld
      rw [heap_grow_old _ _ (by simpa using hblt)]
      simp [putRow, mapBlock, Sort.ahead, Array.getElem?_modify, hb, onCells]
    have hkp : Keeps (fun q => q ∈ (vecT P t 1 encA (.slice (some ⟨b, 0, none⟩) xs.length c) xs).own) w (sortWorld e w b 0 n zs.toArray os) := by
      refine ⟨rfl, rfl, rfl, Nat.le_add_right _ _, ?_, fun q hlt hn => ?_⟩
      · simp [sortWorld, grow]
      · have hne : q ≠ b := fun e => hn (by simp [vecT, vecI, Value.ownBlock, e])
        unfold sortWorld
        rw [heap_grow_old _ _ (by simpa using hlt)]
        simp [putRow, mapBlock, Sort.ahead, Array.getElem?_modify, Ne.symm hne]
    have hown : (sortWorld e w b 0 n zs.toArray os).ownsRow 0 (elemOfT P t) 1 (.slice (some ⟨b, 0, none⟩) xs.length c) zs.length (zs.map e) := by
      refine ⟨by simp, .inr ⟨b, c, _, by rw [hyl], Nat.zero_le _, hheap, by rw [hyl]; exact hnc, hcm, by simp [putCells, hcs], ?_⟩⟩
      have := take_putCells1 (e := e) zs.toArray cur (by simp [hyl]; omega)
      simpa using this
    obtain ⟨g1, g2, g3⟩ := good_head (it' := vecT P t 1 encA (.slice (some ⟨b, 0, none⟩) xs.length c) zs) hg hkp (fun q hq => ⟨by simp [vecT, vecI, Value.ownBlock] at hq; subst hq; simpa [sortWorld, grow] using Nat.lt_of_lt_of_le hblt (Nat.le_add_right _ _), fun _ => hq⟩) (by simp [vecT, vecI, Value.ownBlock])
      (fun hkk hMM => ⟨zs.map e, hown, by rw [hflat]; exact ex_fit_ex _⟩)
    exact ⟨_, he, _, _, ⟨rfl, rfl⟩, g1, g2, g3, ⟨[], rfl, trivial⟩⟩
end
/-- slices.SortFunc by a closure. -/
theorem m_sortbyOn_ok {β : Type} [Inhabited β] {P : Program} {ρ : Go.Shelf.Ren} (L : SlLaysF.n6 P ρ) (L0 : SlLaysF0.n6 P ρ) {e : β → Value} {encA : β → List AV} (hA : ∀ x, encA x = [.exact (e x)]) (h1 : OneCell e) (t : TypeId) {v : Value} {args : β × β → List AV} {res : Int → AV}
    (hargs : ∀ i, args i = [.exact (e i.1), .exact (e i.2)]) (hres : ∀ r, res r = .exact (.int .i64 r)) (xs : List β) (c : β → β → Option Int) (r : List β) (h : m_sortbyOn xs c = some r) :
    Fun P (ρ.f 6) [.exact v, .fn P args (fun i : β × β => c i.1 i.2) res] [vecT P t 1 encA v xs] (fun a s => a = .tup [] ∧ s = [vecT P t 1 encA v r]) := by
  obtain ⟨hl, ho, rfl⟩ := m_sortbyOn_some h
  have hN : ∀ (p : Option Addr) (cc : Nat) (w : World) (M : BSet) (rs : List Value), Fit M w [.fn P args (fun i : β × β => c i.1 i.2) res] rs → Calls P (ρ.f 6) (.slice p 0 cc :: rs).toArray w fun x w' => x = .returned (.tuple #[]) ∧ w' = w := by
    intro p cc w M rs hf
    match rs, hf with
    | [f'], ⟨_, _⟩ => exact AnyF.slices_SortFunc_none L0 p cc f' w
  by_cases hx : xs = []
  · subst hx
    have e0 : sortC c [] = [] := by unfold sortC; simp
    rw [e0]
    exact sort1_funX (xs := []) (zs := []) rfl hA (fun b cc w M rs _ _ _ hne => absurd rfl hne) hN v t
  · let α := {x : β // x ∈ xs}
    obtain ⟨x0, hx0⟩ := List.exists_mem_of_ne_nil xs hx
    haveI : Inhabited α := ⟨⟨x0, hx0⟩⟩
    let cf : α → α → Int := fun x y => cfOf c x.1 y.1
    have hO : SWO (ltOf cf) := ⟨fun x => ho.irrefl _ x.2, fun x y z => ho.trans _ _ _ x.2 y.2 z.2, fun x y z => ho.ntrans _ _ _ x.2 y.2 z.2⟩
    have hT : ∀ x y, (ltOf cf) x y = false → (ltOf cf) y x = false → x = y := fun x y h1 h2 => Subtype.ext (ho.total _ _ x.2 y.2 h1 h2)
    have hsort : sortC c xs = (xs.attach.mergeSort fun x y => !(ltOf cf) y x).map Subtype.val := by
      refine Eq.symm ((List.map_mergeSort (f := Subtype.val) (s := fun x y => !ltC c y x) (fun a _ b _ => rfl)).trans ?_)
      rw [List.attach_map_subtype_val]; rfl
    have hvec : ∀ zs : List α, vecT P t 1 encA v (zs.map Subtype.val) = vecT P t 1 (fun x : α => encA x.1) v zs := fun zs => by
      unfold vecT; rw [List.length_map, List.flatMap_map]
    have hxs : vecT P t 1 encA v xs = vecT P t 1 (fun x : α => encA x.1) v xs.attach := by
      have := hvec xs.attach
      rwa [List.attach_map_subtype_val] at this
    rw [hsort, hvec, hxs]
    refine sort1_funX (e := fun x : α => e x.1) (xs := xs.attach) (List.length_mergeSort _) (fun x => hA x.1) (fun b cc w M rs hb hM hf _ hH hblt => ?_) hN v t
    match rs, hf with
    | [f'], ⟨hfn, _⟩ =>
      obtain ⟨k, fn, caps, avs, e1, e2, e3, e4, e5⟩ := hfn
      subst e1
      simp only [Bool.or_eq_false_iff] at e3
      have := Any.slices_SortFunc_total L (fun x : α => e x.1) (fun x => h1 x.1) cf hO k caps.toArray b 0 cc xs.attach.toArray w (fun args w => run_callFunc e2 e3.1 e3.2) (cmpLays1_fn hM hb e4 (fun x y => by
        obtain ⟨r, hr⟩ := ho.all _ _ x.2 y.2
        have := e5 (x.1, y.1) r hr
        rw [hargs, hres] at this
        have ec : cf x y = r := by show cfOf c x.1 y.1 = r; unfold cfOf; rw [hr]; rfl
        rw [ec]; exact this)) hH hblt (by rw [List.size_toArray]; exact (List.length_attach (l := xs)).symm ▸ hl) hT
      simpa using this
end Go.Proofs.YtdbnodliomlilaaGreat
