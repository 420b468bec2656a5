/- Regions in whatever order, with quiet operations, reads of what is in use, and changes of it: one walk serves if those that clash are tied by edges. -/
import Derived.Test.YtkplmgdmkfgjhaaCf
namespace Go.Proofs.Ytkplmgdmkfgjhaa
open Go.RowKit

section
variable {P : Program} {ops : Array Oper} {E : Env} {n : Nat} {QA : Exit → AF → Items → Prop} {af : AF} {σ : Items}

/-- Operation j waits for i, directly or not. -/
inductive Dep (ops : Array Oper) (i : Nat) : Nat → Prop where
  | one {j : Nat} {o : Oper} {e : Edge} (h : ops[j]? = some o) (he : e ∈ o.after) (hb : Region.binds .any e = true) (hi : e.on = i) : Dep ops i j
  | more {j : Nat} {o : Oper} {e : Edge} (h : ops[j]? = some o) (he : e ∈ o.after) (hb : Region.binds .any e = true) (hd : Dep ops i e.on) : Dep ops i j
def Down (ops : Array Oper) (listed : Array Bool) : Prop := ∀ j o, ops[j]? = some o → listed.getD j false = true → ∀ e ∈ o.after, Region.binds .any e = true → listed.getD e.on false = true
theorem Dep.unlisted {i j : Nat} {listed : Array Bool} (hd : Dep ops i j) (hD : Down ops listed) (hi : listed.getD i false = false) : listed.getD j false = false ∧ j ∉ Region.ready .any ops listed := by
  induction hd with
  | one h he hb hi' =>
    subst hi'
    constructor
    · cases hl : listed.getD _ false with
      | false => rfl
      | true => have := hD _ _ h hl _ he hb; rw [hi] at this; cases this
    · intro hr
      obtain ⟨_, o', ho', hall⟩ := mem_ready.1 hr
      rw [h] at ho'; injection ho' with ho'; subst ho'
      have := hall _ he hb
      rw [hi] at this; cases this
  | more h he hb _ ih =>
    constructor
    · cases hl : listed.getD _ false with
      | false => rfl
      | true => have := hD _ _ h hl _ he hb; rw [ih.1] at this; cases this
    · intro hr
      obtain ⟨_, o', ho', hall⟩ := mem_ready.1 hr
      rw [h] at ho'; injection ho' with ho'; subst ho'
      have := hall _ he hb
      rw [ih.1] at this; cases this
theorem Down.step {i : Nat} {listed : Array Bool} (hD : Down ops listed) (hr : i ∈ Region.ready .any ops listed) : Down ops (listed.setIfInBounds i true) := by
  intro j o ho hj e he hb
  obtain ⟨_, oi, hoi, hall⟩ := mem_ready.1 hr
  refine getD_set_true ?_
  by_cases hji : j = i
  · subst hji; rw [hoi] at ho; injection ho with ho; subst ho; exact hall e he hb
  · rw [getD_set_ne false (Ne.symm hji)] at hj; exact hD j o ho hj e he hb

/-- Those that wait for i, among the operations from k on. -/
def reach (i : Nat) : List Oper → Nat → List Nat → List Nat
  | [], _, acc => acc
  | o :: l, k, acc => reach i l (k + 1) (bif o.after.any (fun e => Region.binds .any e && (Nat.beq e.on i || acc.contains e.on)) then k :: acc else acc)
theorem reach_dep {i : Nat} : ∀ (l : List Oper) (k : Nat) (acc : List Nat), (∀ j, l[j]? = ops[k + j]?) → (∀ j ∈ acc, Dep ops i j) → ∀ j ∈ reach i l k acc, Dep ops i j
  | [], _, _, _, ha, j, hj => ha j hj
  | o :: l, k, acc, hl, ha, j, hj => by
    have h0 : ops[k]? = some o := by simpa using (hl 0).symm
    refine reach_dep l (k + 1) _ (fun j => by have := hl (j + 1); simpa [Nat.add_assoc, Nat.add_comm 1 j] using this) (fun q hq => ?_) j hj
    cases hc : o.after.any (fun e => Region.binds .any e && (Nat.beq e.on i || acc.contains e.on)) with
    | false => rw [hc] at hq; exact ha q hq
    | true =>
      rw [hc] at hq
      rcases List.mem_cons.1 hq with rfl | hq
      · rw [Array.any_eq_true] at hc
        obtain ⟨x, hx, hc⟩ := hc
        simp only [Bool.and_eq_true, Bool.or_eq_true] at hc
        rcases hc.2 with h | h
        · exact .one h0 (Array.getElem_mem hx) hc.1 (Nat.eq_of_beq_eq_true h)
        · exact .more h0 (Array.getElem_mem hx) hc.1 (ha _ (by simpa using h))
      · exact ha q hq

/-- All of kp are in use. -/
def Has (kp σ : Items) : Prop := ∀ it ∈ kp, it ∈ σ
def YieldsI (P : Program) (ops : Array Oper) (kp : Items) (o : Oper) (av : AV) (af : AF) : Prop :=
  (Sat ops o af false ∧ av = undefA) ∨ (Sat ops o af true ∧ ∀ σ, Has kp σ → Reads P o af σ av)
theorem YieldsI.put {kp : Items} {o oj : Oper} {av : AV} (x : AV) (h : ∀ d, oj.dst = some d → d ∉ o.looksAt ops) (hy : YieldsI P ops kp o av af) : YieldsI P ops kp o av (af.put oj.dst x) :=
  hy.imp (fun ⟨h1, h2⟩ => ⟨(Sat.put_iff x h).2 h1, h2⟩) (fun ⟨h1, h2⟩ => ⟨(Sat.put_iff x h).2 h1, fun σ hk => (h2 σ hk).put x h⟩)
theorem YieldsI.unput {kp : Items} {o oj : Oper} {av : AV} (x : AV) (h : ∀ d, oj.dst = some d → d ∉ o.looksAt ops) (hy : YieldsI P ops kp o av (af.put oj.dst x)) : YieldsI P ops kp o av af :=
  hy.imp (fun ⟨h1, h2⟩ => ⟨(Sat.put_iff x h).1 h1, h2⟩) (fun ⟨h1, h2⟩ => ⟨(Sat.put_iff x h).1 h1, fun σ hk => (h2 σ hk).unput x h⟩)
variable {kp : Items}
/-- Kinds: 0 quiet, 1 reads, 2 changes, 3 changes all but kp, 4 reads of kp. -/
def stepK (P : Program) (ops : Array Oper) (kp : Items) (kd : Nat) (i : Nat) (K : AF → Items → Prop) (af : AF) (σ : Items) : Prop :=
  match kd with
  | 3 => stepA P ops i (fun af' σ' => Has kp σ' ∧ K af' σ') af σ
  | 4 => match ops[i]? with | none => K af σ | some o => ∃ av, YieldsI P ops kp o av af ∧ K (af.put o.dst av) σ
  | 0 => match ops[i]? with | none => K af σ | some o => ∃ av, YieldsA P ops o av af ∧ K (af.put o.dst av) σ
  | 1 => match ops[i]? with | none => K af σ | some o => ∃ av, YieldsS P ops σ o av af ∧ K (af.put o.dst av) σ
  | _ => stepA P ops i K af σ
theorem stepK_3 {i : Nat} {K : AF → Items → Prop} (h : stepA P ops i (fun af' σ' => Has kp σ' ∧ K af' σ') af σ) : stepK P ops kp 3 i K af σ := by unfold stepK; exact h
theorem stepK_mono {kd i : Nat} {K K' : AF → Items → Prop} (h : ∀ af σ, K af σ → K' af σ) (hh : stepK P ops kp kd i K af σ) : stepK P ops kp kd i K' af σ := by
  unfold stepK at *
  split at hh
  · exact stepA_mono (fun af σ ⟨a, b⟩ => ⟨a, h _ _ b⟩) hh
  · split at hh
    · exact h _ _ hh
    · obtain ⟨av, h1, h2⟩ := hh; exact ⟨av, h1, h _ _ h2⟩
  · split at hh
    · exact h _ _ hh
    · obtain ⟨av, h1, h2⟩ := hh; exact ⟨av, h1, h _ _ h2⟩
  · split at hh
    · exact h _ _ hh
    · obtain ⟨av, h1, h2⟩ := hh; exact ⟨av, h1, h _ _ h2⟩
  · exact stepA_mono h hh
theorem stepA_of_read {i : Nat} {o : Oper} {av : AV} {K : AF → Items → Prop} (h0 : ops[i]? = some o) (h1 : YieldsS P ops σ o av af) (h2 : K (af.put o.dst av) σ) : stepA P ops i K af σ := by
  unfold stepA; simp only [h0]
  rcases h1 with ⟨g1, rfl⟩ | ⟨g1, g2⟩
  · exact .inl ⟨g1, h2⟩
  · exact .inr ⟨g1, _, loud_of_reads g2, fun a s ⟨e1, e2⟩ => by subst e1 e2; exact h2⟩
theorem YieldsI.at {o : Oper} {av : AV} (h : YieldsI P ops kp o av af) (hk : Has kp σ) : YieldsS P ops σ o av af := h.imp id (fun ⟨a, b⟩ => ⟨a, b σ hk⟩)
theorem stepK_A {kd i : Nat} {K : AF → Items → Prop} (hkp : Has kp σ) (hh : stepK P ops kp kd i K af σ) : stepA P ops i (fun af' σ' => Has kp σ' ∧ K af' σ' ∨ K af' σ') af σ := by
  unfold stepK at hh
  split at hh
  · exact stepA_mono (fun af σ h => .inl h) hh
  · split at hh
    · rename_i h0; unfold stepA; simp only [h0]; exact .inr hh
    · rename_i o h0
      obtain ⟨av, h1, h2⟩ := hh
      exact stepA_of_read h0 (h1.at hkp) (.inr h2)
  · split at hh
    · rename_i h0; unfold stepA; simp only [h0]; exact .inr hh
    · rename_i o h0
      obtain ⟨av, h1, h2⟩ := hh
      exact h1.step h0 (.inr h2)
  · split at hh
    · rename_i h0; unfold stepA; simp only [h0]; exact .inr hh
    · rename_i o h0
      obtain ⟨av, h1, h2⟩ := hh
      exact stepA_of_read h0 h1 (.inr h2)
  · exact stepA_mono (fun af σ h => .inr h) hh
/-- The items of kp are asked for as long as a read of them may come. -/
def anyK (P : Program) (ops : Array Oper) (kp : Items) (kinds : Nat → Nat) (K : AF → Items → Prop) : Nat → Array Bool → AF → Items → Prop
  | 0, listed, af, σ => Region.ready .any ops listed = [] ∧ K af σ
  | fuel + 1, listed, af, σ => (Region.ready .any ops listed = [] → K af σ) ∧ ∀ i ∈ Region.ready .any ops listed, stepK P ops kp (kinds i) i (anyK P ops kp kinds K fuel (listed.setIfInBounds i true)) af σ ∧ (kinds i = 4 → Has kp σ)
theorem stepA_of_K {kd i : Nat} {K : AF → Items → Prop} (hkp : kd = 4 → Has kp σ) (hh : stepK P ops kp kd i K af σ) : stepA P ops i K af σ := by
  by_cases h4 : kd = 4
  · subst h4
    unfold stepK at hh
    simp only at hh
    split at hh
    · rename_i h0; unfold stepA; simp only [h0]; exact hh
    · rename_i o h0
      obtain ⟨av, h1, h2⟩ := hh
      exact stepA_of_read h0 (h1.at (hkp rfl)) h2
  · unfold stepK at hh
    split at hh
    · exact stepA_mono (fun af σ h => h.2) hh
    · exact absurd rfl h4
    · split at hh
      · rename_i h0; unfold stepA; simp only [h0]; exact hh
      · rename_i o h0
        obtain ⟨av, h1, h2⟩ := hh
        exact h1.step h0 h2
    · split at hh
      · rename_i h0; unfold stepA; simp only [h0]; exact hh
      · rename_i o h0
        obtain ⟨av, h1, h2⟩ := hh
        exact stepA_of_read h0 h1 h2
    · exact hh
theorem anyA_of_anyK {kinds : Nat → Nat} {K : AF → Items → Prop} : ∀ (fuel : Nat) (listed : Array Bool) (af : AF) (σ : Items), anyK P ops kp kinds K fuel listed af σ → anyA P ops K fuel listed af σ
  | 0, _, _, _, h => h
  | fuel + 1, listed, af, σ, h => ⟨h.1, fun i hi => stepA_mono (fun af σ hh => anyA_of_anyK fuel _ af σ hh) (stepA_of_K (h.2 i hi).2 (h.2 i hi).1)⟩
def YieldsK (P : Program) (ops : Array Oper) (kp : Items) (kd : Nat) (σ : Items) (o : Oper) (av : AV) (af : AF) : Prop := match kd with | 0 => YieldsA P ops o av af | 4 => YieldsI P ops kp o av af ∧ Has kp σ | _ => YieldsS P ops σ o av af
def okK (ki kj : Nat) : Bool := match ki with
  | 0 => true
  | 4 => Nat.beq kj 0 || Nat.beq kj 1 || Nat.beq kj 3 || Nat.beq kj 4
  | _ => Nat.beq kj 0 || Nat.beq kj 1 || Nat.beq kj 4
theorem stepK_put {ki kj j : Nat} {oi oj : Oper} {av : AV} (hj : ops[j]? = some oj) (hap : oi.apart ops oj = true) (hk : okK ki kj = true) {K : AF → Items → Prop}
    (hy : YieldsK P ops kp ki σ oi av af) (h : stepK P ops kp kj j K (af.put oi.dst av) σ) : stepK P ops kp kj j (fun af' σ' => YieldsK P ops kp ki σ' oi av af' ∧ K (af'.put oi.dst av) σ') af σ := by
  obtain ⟨h1, h2, h3⟩ := Oper.apart_spec hap
  have hput : ∀ u, YieldsK P ops kp ki σ oi av (af.put oj.dst u) := fun u => by
    unfold YieldsK at hy ⊢
    split at hy
    · exact YieldsA.put u h3 hy
    · exact ⟨hy.1.put u h3, hy.2⟩
    · exact YieldsS.put u h3 hy
  unfold stepK at h
  split at h
  · -- a change that keeps kp
    refine stepK_3 ?_
    unfold stepA at h ⊢
    simp only [hj] at h ⊢
    rcases h with ⟨g1, g2, g3⟩ | ⟨g1, post, g2, g3⟩
    · refine .inl ⟨(Sat.put_iff av h1).1 g1, g2, hput undefA, ?_⟩
      rw [← AF.put_comm af av undefA h2]; exact g3
    · refine .inr ⟨(Sat.put_iff av h1).1 g1, post, g2.unput av h1, fun u σ' hp => ⟨(g3 u σ' hp).1, ?_, ?_⟩⟩
      · have hkp := (g3 u σ' hp).1
        unfold YieldsK at hy ⊢
        split at hy
        · exact YieldsA.put u h3 hy
        · exact ⟨hy.1.put u h3, hkp⟩
        · rename_i n0 n4; simp [okK] at hk <;> (split at hk <;> simp_all)
      · rw [← AF.put_comm af av u h2]; exact (g3 u σ' hp).2
  · simp only [stepK, hj] at h ⊢
    obtain ⟨u, g1, g2⟩ := h
    refine ⟨u, g1.unput av h1, hput u, ?_⟩
    rw [← AF.put_comm af av u h2]; exact g2
  · simp only [stepK, hj] at h ⊢
    obtain ⟨u, g1, g2⟩ := h
    refine ⟨u, ?_, hput u, ?_⟩
    · exact g1.imp (fun ⟨a, b⟩ => ⟨(Sat.put_iff av h1).1 a, b⟩) (fun ⟨a, b⟩ => ⟨(Sat.put_iff av h1).1 a, fun M w ev hM hx => b M w ev hM (fun y hy => by rw [ev_put af av h1 y hy]; exact hx y hy)⟩)
    · rw [← AF.put_comm af av u h2]; exact g2
  · simp only [stepK, hj] at h ⊢
    obtain ⟨u, g1, g2⟩ := h
    refine ⟨u, g1.unput av h1, hput u, ?_⟩
    rw [← AF.put_comm af av u h2]; exact g2
  · rename_i n0 n1 n2 n3
    have hki : ki = 0 := by
      unfold okK at hk
      split at hk
      · rfl
      · simp only [Bool.or_eq_true] at hk
        rcases hk with ((h | h) | h) | h
        · exact absurd (Nat.eq_of_beq_eq_true h) n2
        · exact absurd (Nat.eq_of_beq_eq_true h) n3
        · exact absurd (Nat.eq_of_beq_eq_true h) n0
        · exact absurd (Nat.eq_of_beq_eq_true h) n1
      · simp only [Bool.or_eq_true] at hk
        rcases hk with (h | h) | h
        · exact absurd (Nat.eq_of_beq_eq_true h) n2
        · exact absurd (Nat.eq_of_beq_eq_true h) n3
        · exact absurd (Nat.eq_of_beq_eq_true h) n1
    subst hki
    have e : ∀ K af σ, stepK P ops kp kj j K af σ = stepA P ops j K af σ := fun K af σ => by
      unfold stepK
      split <;> first | rfl | exact absurd rfl ‹_›
    rw [e]
    exact stepA_put hj hap hy h
theorem anyK_first {kinds : Nat → Nat} {K : AF → Items → Prop} {i : Nat} {oi : Oper} {av : AV} (hi : ops[i]? = some oi) (hki : kinds i = 0 ∨ kinds i = 1 ∨ kinds i = 4) :
    ∀ (fuel : Nat) (listed : Array Bool) (af : AF) (σ : Items), Down ops listed →
      (∀ j oj, ops[j]? = some oj → j ≠ i → listed.getD j true = false → ¬ Dep ops i j → oi.apart ops oj = true ∧ okK (kinds i) (kinds j) = true) →
      i ∈ Region.ready .any ops listed → YieldsK P ops kp (kinds i) σ oi av af →
      anyK P ops kp kinds K fuel (listed.setIfInBounds i true) (af.put oi.dst av) σ → anyK P ops kp kinds K (fuel + 1) listed af σ := by
  intro fuel
  have one : ∀ {K' : AF → Items → Prop} {af : AF} {σ : Items}, YieldsK P ops kp (kinds i) σ oi av af → K' (af.put oi.dst av) σ → stepK P ops kp (kinds i) i K' af σ ∧ (kinds i = 4 → Has kp σ) := fun hy hk => by
    rcases hki with h | h | h <;> rw [h] at hy ⊢
    · exact ⟨by simp only [stepK, hi]; exact ⟨av, hy, hk⟩, fun h => by cases h⟩
    · exact ⟨by simp only [stepK, hi]; exact ⟨av, hy, hk⟩, fun h => by cases h⟩
    · exact ⟨by simp only [stepK, hi]; exact ⟨av, hy.1, hk⟩, fun _ => hy.2⟩
  induction fuel with
  | zero =>
    intro listed af σ _ _ hr hy H
    refine ⟨fun h => (by rw [h] at hr; cases hr), fun j hj => ?_⟩
    by_cases hji : j = i
    · subst hji; exact one hy H
    · have := ready_mono hj hji
      rw [H.1] at this
      cases this
  | succ fuel ih =>
    intro listed af σ hD hfree hr hy H
    refine ⟨fun h => (by rw [h] at hr; cases hr), fun j hj => ?_⟩
    by_cases hji : j = i
    · subst hji; exact one hy H
    · have h1 := H.2 j (ready_mono hj hji)
      obtain ⟨hjun, oj, hoj, hall⟩ := mem_ready.1 hj
      have hiun : listed.getD i false = false := by
        have := (mem_ready.1 hr).1
        cases hl : listed.getD i false with
        | false => rfl
        | true =>
          rcases Nat.lt_or_ge i listed.size with h' | h'
          · simp [h'] at this hl; rw [this] at hl; cases hl
          · simp [Array.getElem?_eq_none h'] at hl
      have hnd : ¬ Dep ops i j := fun hd => (hd.unlisted hD hiun).2 hj
      obtain ⟨hap, hkk⟩ := hfree j oj hoj hji hjun hnd
      have h2 := stepK_put hoj hap hkk hy h1.1
      have hfree' : ∀ k ok, ops[k]? = some ok → k ≠ i → (listed.setIfInBounds j true).getD k true = false → ¬ Dep ops i k → oi.apart ops ok = true ∧ okK (kinds i) (kinds k) = true := fun k ok hk hki hun hno => by
        refine hfree k ok hk hki ?_ hno
        by_cases hjk : j = k
        · subst hjk; exact hjun
        · rw [getD_set_ne true hjk] at hun; exact hun
      refine ⟨stepK_mono (fun af' σ' h3 => ih (listed.setIfInBounds j true) af' σ' (hD.step hj) hfree' (ready_mono hr (Ne.symm hji)) h3.1 ?_) h2, h1.2⟩
      rw [Array.setIfInBounds_comm _ _ hji]
      exact h3.2

/-! ### The walk in a given order: kinds and numbers -/
def opI (P : Program) (kp : Items) (o : Oper) (af : AF) (K : AF → Prop) : Prop := ∃ av, (∀ σ, Has kp σ → Reads P o af σ av) ∧ K (af.put o.dst av)
def opK (P : Program) (kp : Items) (kd : Nat) (o : Oper) (af : AF) (σ : Items) (K : AF → Items → Prop) : Prop := match kd with
  | 3 => opB P o af σ (fun af' σ' => Has kp σ' ∧ K af' σ')
  | 4 => Has kp σ ∧ opI P kp o af (fun af' => K af' σ)
  | 0 => opA P o af (fun af' => K af' σ)
  | 1 => opR P o af σ (fun af' => K af' σ)
  | _ => opB P o af σ K
def wpP (P : Program) (ops : Array Oper) (kp : Items) (K : AF → Items → Prop) : List (Nat × Nat) → AF → Items → Prop
  | [], af, σ => K af σ
  | (kd, i) :: rest, af, σ => ∃ o, ops[i]? = some o ∧ ((Sat ops o af false ∧ (kd = 3 ∨ kd = 4 → Has kp σ) ∧ wpP P ops kp K rest (af.put o.dst undefA) σ) ∨ (Sat ops o af true ∧ opK P kp kd o af σ (wpP P ops kp K rest)))
def kindOf (plan : List (Nat × Nat)) (i : Nat) : Nat := ((plan.find? (fun p => Nat.beq p.2 i)).map (·.1)).getD 2
def freeK (ops : Array Oper) (plan : List (Nat × Nat)) (listed : Array Bool) (i : Nat) : Bool :=
  match ops[i]? with
  | none => false
  | some oi =>
    let dep := reach i ops.toList 0 []
    (List.range ops.size).all fun j => Nat.beq j i || listed.getD j true || dep.contains j || (match ops[j]? with | none => false | some oj => oi.apart ops oj && okK (kindOf plan i) (kindOf plan j))
def lexK (ops : Array Oper) (plan : List (Nat × Nat)) : List (Nat × Nat) → Array Bool → Bool
  | [], listed => (Region.ready .any ops listed).isEmpty
  | (kd, k) :: rest, listed => Nat.beq (kindOf plan k) kd && (bif Nat.beq kd 0 || Nat.beq kd 1 || Nat.beq kd 4 then (Region.ready .any ops listed).contains k && freeK ops plan listed k else (Region.ready .any ops listed) == [k]) && lexK ops plan rest (listed.setIfInBounds k true)
theorem freeK_spec {plan : List (Nat × Nat)} {listed : Array Bool} {i : Nat} {oi : Oper} (hi : ops[i]? = some oi) (h : freeK ops plan listed i = true) (j : Nat) (oj : Oper) (hj : ops[j]? = some oj) (hne : j ≠ i) (hun : listed.getD j true = false) (hnd : ¬ Dep ops i j) :
    oi.apart ops oj = true ∧ okK (kindOf plan i) (kindOf plan j) = true := by
  unfold freeK at h
  simp only [hi] at h
  have hlt : j < ops.size := (Array.getElem?_eq_some_iff.1 hj).1
  have h1 := List.all_eq_true.1 h j (List.mem_range.2 hlt)
  simp only [Bool.or_eq_true, hun, hj, Bool.and_eq_true] at h1
  rcases h1 with ((h1 | h1) | h1) | h1
  · exact absurd (Nat.eq_of_beq_eq_true h1) hne
  · cases h1
  · exact absurd (reach_dep ops.toList 0 [] (fun q => by simp) (fun q hq => by simp at hq) j (by simpa using h1)) hnd
  · exact h1
theorem anyK_of_lex {plan : List (Nat × Nat)} {K : AF → Items → Prop} : ∀ (l : List (Nat × Nat)) (listed : Array Bool) (af : AF) (σ : Items), Down ops listed →
    lexK ops plan l listed = true → wpP P ops kp K l af σ → anyK P ops kp (kindOf plan) K l.length listed af σ
  | [], _, _, _, _, hB, h => ⟨by simpa [lexK] using hB, h⟩
  | (kd, k) :: l, listed, af, σ, hD, hB, h => by
    obtain ⟨o, h0, h⟩ := h
    simp only [lexK, Bool.and_eq_true] at hB
    obtain ⟨⟨hB0, hB1⟩, hB2⟩ := hB
    have hkd : kindOf plan k = kd := Nat.eq_of_beq_eq_true hB0
    by_cases hq : kd = 0 ∨ kd = 1 ∨ kd = 4
    · have hqb : (Nat.beq kd 0 || Nat.beq kd 1 || Nat.beq kd 4) = true := by rcases hq with h | h | h <;> rw [h] <;> rfl
      rw [hqb] at hB1
      simp only [cond_true, Bool.and_eq_true] at hB1
      obtain ⟨hr, hf⟩ := hB1
      have hr' : k ∈ Region.ready .any ops listed := by simpa using hr
      have hy : ∃ av, YieldsK P ops kp (kindOf plan k) σ o av af ∧ wpP P ops kp K l (af.put o.dst av) σ := by
        rw [hkd]
        rcases h with ⟨h1, hkp, h2⟩ | ⟨h1, h2⟩
        · refine ⟨undefA, ?_, h2⟩
          unfold YieldsK
          split
          · exact .inl ⟨h1, rfl⟩
          · exact ⟨.inl ⟨h1, rfl⟩, hkp (.inr rfl)⟩
          · exact .inl ⟨h1, rfl⟩
        · rcases hq with rfl | rfl | rfl
          · obtain ⟨av, g1, g2⟩ := h2
            exact ⟨av, .inr ⟨h1, g1⟩, g2⟩
          · obtain ⟨av, g1, g2⟩ := h2
            exact ⟨av, .inr ⟨h1, g1⟩, g2⟩
          · obtain ⟨hkp, av, g1, g2⟩ := h2
            exact ⟨av, ⟨.inr ⟨h1, g1⟩, hkp⟩, g2⟩
      obtain ⟨av, hy, hK⟩ := hy
      exact anyK_first (kinds := kindOf plan) h0 (by rw [hkd]; exact hq) l.length listed af σ hD (freeK_spec h0 hf) hr' hy (anyK_of_lex l _ _ σ (hD.step hr') hB2 hK)
    · have hqb : (Nat.beq kd 0 || Nat.beq kd 1 || Nat.beq kd 4) = false := by
        cases h1 : Nat.beq kd 0 with
        | true => exact absurd (.inl (Nat.eq_of_beq_eq_true h1)) hq
        | false => cases h2 : Nat.beq kd 1 with
          | true => exact absurd (.inr (.inl (Nat.eq_of_beq_eq_true h2))) hq
          | false => cases h3 : Nat.beq kd 4 with
            | true => exact absurd (.inr (.inr (Nat.eq_of_beq_eq_true h3))) hq
            | false => rfl
      rw [hqb] at hB1
      simp only [cond_false, beq_iff_eq] at hB1
      have hr' : k ∈ Region.ready .any ops listed := by rw [hB1]; simp
      refine ⟨fun h0 => (by rw [h0] at hB1; cases hB1), fun j hj => ?_⟩
      rw [hB1] at hj
      obtain rfl : j = k := by simpa using hj
      rw [hkd]
      refine ⟨?_, fun h4 => absurd (.inr (.inr h4)) hq⟩
      by_cases h3 : kd = 3
      · subst h3
        refine stepK_3 ?_
        unfold stepA; simp only [h0]
        rcases h with ⟨h1, hkp, h2⟩ | ⟨h1, h2⟩
        · exact .inl ⟨h1, hkp (.inl rfl), anyK_of_lex l _ _ σ (hD.step hr') hB2 h2⟩
        · obtain ⟨post, p1, p2⟩ := h2
          exact .inr ⟨h1, post, p1, fun av σ' hp => ⟨(p2 av σ' hp).1, anyK_of_lex l _ _ σ' (hD.step hr') hB2 (p2 av σ' hp).2⟩⟩
      have e : ∀ K af σ, stepK P ops kp kd j K af σ = stepA P ops j K af σ := fun K af σ => by
        unfold stepK
        split
        · exact absurd rfl h3
        · exact absurd (.inr (.inr rfl)) hq
        · exact absurd (.inl rfl) hq
        · exact absurd (.inr (.inl rfl)) hq
        · rfl
      rw [e]
      unfold stepA; simp only [h0]
      rcases h with ⟨h1, _, h2⟩ | ⟨h1, h2⟩
      · exact .inl ⟨h1, anyK_of_lex l _ _ σ (hD.step hr') hB2 h2⟩
      · refine .inr ⟨h1, ?_⟩
        have h3 : opB P o af σ (wpP P ops kp K l) := by
          unfold opK at h2
          split at h2
          · exact absurd rfl h3
          · exact absurd (.inr (.inr rfl)) hq
          · exact absurd (.inl rfl) hq
          · exact absurd (.inr (.inl rfl)) hq
          · exact h2
        obtain ⟨post, p1, p2⟩ := h3
        exact ⟨post, p1, fun av σ' hp => anyK_of_lex l _ _ σ' (hD.step hr') hB2 (p2 av σ' hp)⟩
def planKB (plan : List (Nat × Nat)) (l : List Oper) (n : Nat) : Bool := dstB l.toArray n && Nat.beq plan.length l.length && lexK l.toArray plan plan (Array.replicate l.length false)
variable {ks : List KFr}
theorem k_plan (kp : Items) (plan : List (Nat × Nat)) {id : Nat} {l : List Oper} (hm : P.follows .mixedOrders = true) (hB : planKB plan l n = true)
    (h : wpP P l.toArray kp (den P E n ks .normal) plan af σ) : awp P E n (.region id l.toArray true) (den P E n ks) af σ := by
  simp only [planKB, Bool.and_eq_true] at hB
  intro a w hh
  refine wp_region_any hm ?_
  have hD : Down l.toArray (Array.replicate l.length false) := fun j o _ hj => by
    rw [Array.getD_eq_getD_getElem?, Array.getElem?_replicate] at hj
    split at hj <;> cases hj
  have hl : plan.length = l.length := Nat.eq_of_beq_eq_true hB.1.2
  have h1 := anyA_of_anyK (kp := kp) _ _ _ _ (anyK_of_lex (plan := plan) plan (Array.replicate l.length false) af σ hD hB.2 h)
  rw [hl] at h1
  simpa using wpAny_of_anyA hB.1.1 _ _ af σ a _ h1 hh.drew

variable {K : AF → Items → Prop} {rest : List (Nat × Nat)} {dst : Option Tmp} {op : Op} {ty0 : TypeId} {pos0 : String} {after0 : Array Edge} {i kd : Nat}
theorem opK_q {o : Oper} (hkd : kd = 3 ∨ kd = 4 → Has kp σ) (h : opA P o af (fun af' => K af' σ)) : opK P kp kd o af σ K := by
  obtain ⟨av, h1, h2⟩ := h
  unfold opK
  split
  · exact ⟨_, loud_of_quiet σ h1, fun a s ⟨e1, e2⟩ => by subst e1 e2; exact ⟨hkd (.inl rfl), h2⟩⟩
  · exact ⟨hkd (.inr rfl), av, fun σ _ => h1.reads σ, h2⟩
  · exact ⟨av, h1, h2⟩
  · exact ⟨av, h1.reads σ, h2⟩
  · exact ⟨_, loud_of_quiet σ h1, fun a s ⟨e1, e2⟩ => by subst e1 e2; exact h2⟩
theorem P_nil (h : K af σ) : wpP P ops kp K [] af σ := h
theorem P_q (hkd : kd = 3 ∨ kd = 4 → Has kp σ) (hi : ops[i]? = some ⟨dst, op, ty0, pos0, after0, none⟩) (h : opA P ⟨dst, op, ty0, pos0, after0, none⟩ af (fun af' => wpP P ops kp K rest af' σ)) : wpP P ops kp K ((kd, i) :: rest) af σ := ⟨_, hi, .inr ⟨.inl ⟨rfl, rfl⟩, opK_q (K := wpP P ops kp K rest) hkd h⟩⟩
theorem P_r (hi : ops[i]? = some ⟨dst, op, ty0, pos0, after0, none⟩) (h : opR P ⟨dst, op, ty0, pos0, after0, none⟩ af σ (fun af' => wpP P ops kp K rest af' σ)) : wpP P ops kp K ((1, i) :: rest) af σ := ⟨_, hi, .inr ⟨.inl ⟨rfl, rfl⟩, h⟩⟩
theorem P_l (hi : ops[i]? = some ⟨dst, op, ty0, pos0, after0, none⟩) (h : opB P ⟨dst, op, ty0, pos0, after0, none⟩ af σ (wpP P ops kp K rest)) : wpP P ops kp K ((2, i) :: rest) af σ := ⟨_, hi, .inr ⟨.inl ⟨rfl, rfl⟩, h⟩⟩
variable {j : Nat} {want : Bool} {dg : Tmp} {c : Bool} {p : Prop} [Decidable p]
theorem Py_q (hkd : kd = 3 ∨ kd = 4 → Has kp σ) (hi : ops[i]? = some ⟨dst, op, ty0, pos0, after0, some (j, want)⟩) (hj : (ops[j]?).bind (·.dst) = some dg) (hv : af dg = .exact (.bool want)) (h : opA P ⟨dst, op, ty0, pos0, after0, some (j, want)⟩ af (fun af' => wpP P ops kp K rest af' σ)) : wpP P ops kp K ((kd, i) :: rest) af σ :=
  ⟨_, hi, .inr ⟨by simpa using Sat.mk (want := want) hj hv, opK_q (K := wpP P ops kp K rest) hkd h⟩⟩
theorem Py_r (hi : ops[i]? = some ⟨dst, op, ty0, pos0, after0, some (j, want)⟩) (hj : (ops[j]?).bind (·.dst) = some dg) (hv : af dg = .exact (.bool want)) (h : opR P ⟨dst, op, ty0, pos0, after0, some (j, want)⟩ af σ (fun af' => wpP P ops kp K rest af' σ)) : wpP P ops kp K ((1, i) :: rest) af σ :=
  ⟨_, hi, .inr ⟨by simpa using Sat.mk (want := want) hj hv, h⟩⟩
theorem Py_l (hi : ops[i]? = some ⟨dst, op, ty0, pos0, after0, some (j, want)⟩) (hj : (ops[j]?).bind (·.dst) = some dg) (hv : af dg = .exact (.bool want)) (h : opB P ⟨dst, op, ty0, pos0, after0, some (j, want)⟩ af σ (wpP P ops kp K rest)) : wpP P ops kp K ((2, i) :: rest) af σ :=
  ⟨_, hi, .inr ⟨by simpa using Sat.mk (want := want) hj hv, h⟩⟩
theorem P_n (hkd : kd = 3 ∨ kd = 4 → Has kp σ) (hi : ops[i]? = some ⟨dst, op, ty0, pos0, after0, some (j, want)⟩) (hj : (ops[j]?).bind (·.dst) = some dg) (hv : af dg = .exact (.bool (!want))) (h : wpP P ops kp K rest (af.put dst undefA) σ) : wpP P ops kp K ((kd, i) :: rest) af σ :=
  ⟨_, hi, .inl ⟨by simpa using Sat.mk (want := want) hj hv, hkd, h⟩⟩
theorem P_u (hkd : kd = 3 ∨ kd = 4 → Has kp σ) (hi : ops[i]? = some ⟨dst, op, ty0, pos0, after0, some (j, want)⟩) (hj : (ops[j]?).bind (·.dst) = some dg) (hv : af dg = undefA) (h : wpP P ops kp K rest (af.put dst undefA) σ) : wpP P ops kp K ((kd, i) :: rest) af σ :=
  ⟨_, hi, .inl ⟨.inr ⟨j, want, dg, undef, rfl, hj, hv, rfl⟩, hkd, h⟩⟩
variable {pl : List (Nat × Nat)}
theorem P_split (dg : Tmp) (hv : af dg = .exact (.bool (decide p))) (h1 : p → wpP P ops kp K pl (af.put (some dg) (.exact (.bool true))) σ) (h2 : ¬ p → wpP P ops kp K pl (af.put (some dg) (.exact (.bool false))) σ) : wpP P ops kp K pl af σ := by
  by_cases hp : p
  · have := h1 hp; rwa [put_b hv (by simp [hp])] at this
  · have := h2 hp; rwa [put_b hv (by simp [hp])] at this
theorem P_splitB (dg : Tmp) (hv : af dg = .exact (.bool c)) (h1 : c = true → wpP P ops kp K pl (af.put (some dg) (.exact (.bool true))) σ) (h2 : ¬ c = true → wpP P ops kp K pl (af.put (some dg) (.exact (.bool false))) σ) : wpP P ops kp K pl af σ := by
  by_cases hp : c = true
  · have := h1 hp; rwa [put_b hv hp] at this
  · have := h2 hp; rwa [put_b hv (by simpa using hp)] at this
theorem Has.mk0 : Has [] σ := fun it h => by cases h
theorem Has.cons {it : Item} {kp : Items} (h : it ∈ σ) (h' : Has kp σ) : Has (it :: kp) σ := fun x hx => by
  rcases List.mem_cons.1 hx with rfl | hx
  · exact h
  · exact h' x hx
theorem no34_0 : (0 : Nat) = 3 ∨ (0 : Nat) = 4 → Has kp σ := fun h => by rcases h with h | h <;> cases h
theorem no34_1 : (1 : Nat) = 3 ∨ (1 : Nat) = 4 → Has kp σ := fun h => by rcases h with h | h <;> cases h
theorem no34_2 : (2 : Nat) = 3 ∨ (2 : Nat) = 4 → Has kp σ := fun h => by rcases h with h | h <;> cases h
theorem P_l3 (hi : ops[i]? = some ⟨dst, op, ty0, pos0, after0, none⟩) (h : opB P ⟨dst, op, ty0, pos0, after0, none⟩ af σ (fun af' σ' => Has kp σ' ∧ wpP P ops kp K rest af' σ')) : wpP P ops kp K ((3, i) :: rest) af σ := ⟨_, hi, .inr ⟨.inl ⟨rfl, rfl⟩, h⟩⟩
theorem Py_l3 (hi : ops[i]? = some ⟨dst, op, ty0, pos0, after0, some (j, want)⟩) (hj : (ops[j]?).bind (·.dst) = some dg) (hv : af dg = .exact (.bool want)) (h : opB P ⟨dst, op, ty0, pos0, after0, some (j, want)⟩ af σ (fun af' σ' => Has kp σ' ∧ wpP P ops kp K rest af' σ')) : wpP P ops kp K ((3, i) :: rest) af σ :=
  ⟨_, hi, .inr ⟨by simpa using Sat.mk (want := want) hj hv, h⟩⟩
theorem P_r4 (hk : Has kp σ) (hi : ops[i]? = some ⟨dst, op, ty0, pos0, after0, none⟩) (h : opI P kp ⟨dst, op, ty0, pos0, after0, none⟩ af (fun af' => wpP P ops kp K rest af' σ)) : wpP P ops kp K ((4, i) :: rest) af σ := ⟨_, hi, .inr ⟨.inl ⟨rfl, rfl⟩, hk, h⟩⟩
theorem Py_r4 (hk : Has kp σ) (hi : ops[i]? = some ⟨dst, op, ty0, pos0, after0, some (j, want)⟩) (hj : (ops[j]?).bind (·.dst) = some dg) (hv : af dg = .exact (.bool want)) (h : opI P kp ⟨dst, op, ty0, pos0, after0, some (j, want)⟩ af (fun af' => wpP P ops kp K rest af' σ)) : wpP P ops kp K ((4, i) :: rest) af σ :=
  ⟨_, hi, .inr ⟨by simpa using Sat.mk (want := want) hj hv, hk, h⟩⟩
/-- A read of one thing, whatever else is in use. -/
theorem opI_mk {t : Tmp} {it : Item} {a0 : AV} {K : AF → Prop} {gd : Option (Nat × Bool)} (hm : it ∈ kp) (h : ∀ ρ, opR P ⟨some t, op, ty0, pos0, after0, gd⟩ af (it :: ρ) (fun af' => af' = af.put (some t) a0)) (hk : K (af.put (some t) a0)) : opI P kp ⟨some t, op, ty0, pos0, after0, gd⟩ af K := by
  refine ⟨a0, fun σ hkp => ?_, hk⟩
  obtain ⟨s1, s2, rfl⟩ := List.append_of_mem (hkp it hm)
  obtain ⟨av, h1, h2⟩ := h (s1 ++ s2)
  have : av = a0 := by have := congrFun h2 t; rwa [AF.put_same, AF.put_same] at this
  subst this
  exact h1.perm List.perm_middle
end
end Go.Proofs.Ytkplmgdmkfgjhaa
