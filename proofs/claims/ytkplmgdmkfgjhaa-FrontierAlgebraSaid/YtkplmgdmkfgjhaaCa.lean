/- Regions by modes: fixed order, reads in any order, or one thing changed among quiet operations; joins, loops, the ends of bodies. -/
import Derived.Test.YtkplmgdmkfgjhaaAt
namespace Go.Proofs.Ytkplmgdmkfgjhaa
open Go.RowKit

inductive Mode where
  | free
  | still
  | mixed (l : List FuncId)
def Mode.q : Mode → Oper → Bool
  | .mixed l, o => quietKind l o
  | _, _ => true
def Mode.r : Mode → Oper → Bool
  | .mixed _, _ => false
  | _, _ => true
def Mode.l : Mode → Oper → Bool
  | .free, _ => true
  | .still, _ => false
  | .mixed l, o => !quietKind l o

section
variable {P : Program} {ops : Array Oper} {E : Env} {n : Nat} {QA : Exit → AF → Items → Prop} {af : AF} {σ : Items}

/-- The operation reads what is in use, and changes nothing. -/
def Reads (P : Program) (o : Oper) (af : AF) (σ : Items) (av : AV) : Prop :=
  ∀ F w ev, Good F σ w → (∀ x ∈ o.op.operands, (af.ev x).p (both F (Items.own σ)) w (ev x)) → UponQ P (both F (Items.own σ)) w av ((execOp ev o).run P w)
theorem Quiet.reads {o : Oper} {av : AV} (h : Quiet P o af av) (σ : Items) : Reads P o af σ av := fun _ w ev hg hx => h _ w ev hg.lt hx
theorem loud_of_reads {o : Oper} {av : AV} (h : Reads P o af σ av) : Loud P o af σ (fun a s => a = av ∧ s = σ) := by
  intro F w ev hg hx
  have h1 := h F w ev hg hx
  generalize (execOp ev o).run P w = r at h1
  cases r with
  | ok n w' =>
    cases n <;> simp only [UponQ] at h1 <;> simp only [Upon] <;> try exact h1.elim
    case value v => exact out_of_quiet hg h1.1 h1.2
    case skip => exact out_of_quiet hg h1.1 h1.2
    case enter f args => exact h1.mono fun e w'' ⟨v, he, hk, hp⟩ => ⟨v, he, out_of_quiet hg hk hp⟩
    case row r args => exact h1.mono fun v w'' ⟨hk, hp⟩ => out_of_quiet hg hk hp
  | halt x w' => exact h1.elim
theorem Reads.put {o oj : Oper} {av : AV} (x : AV) (h : ∀ d, oj.dst = some d → d ∉ o.looksAt ops) (hq : Reads P o af σ av) : Reads P o (af.put oj.dst x) σ av :=
  fun F w ev hM hx => hq F w ev hM (fun y hy => by have := hx y hy; rwa [ev_put af x h y hy] at this)
theorem Reads.unput {o oj : Oper} {av : AV} (x : AV) (h : ∀ d, oj.dst = some d → d ∉ o.looksAt ops) (hq : Reads P o (af.put oj.dst x) σ av) : Reads P o af σ av :=
  fun F w ev hg hx => hq F w ev hg (fun y hy => by rw [ev_put af x h y hy]; exact hx y hy)

/-! ### Reads in whatever order -/
def YieldsS (P : Program) (ops : Array Oper) (σ : Items) (o : Oper) (av : AV) (af : AF) : Prop :=
  (Sat ops o af false ∧ av = undefA) ∨ (Sat ops o af true ∧ Reads P o af σ av)
def stepS (P : Program) (ops : Array Oper) (σ : Items) (i : Nat) (K : AF → Prop) (af : AF) : Prop :=
  match ops[i]? with
  | none => K af
  | some o => ∃ av, YieldsS P ops σ o av af ∧ K (af.put o.dst av)
def anyS (P : Program) (ops : Array Oper) (σ : Items) (K : AF → Prop) : Nat → Array Bool → AF → Prop
  | 0, listed, af => Region.ready .any ops listed = [] ∧ K af
  | fuel + 1, listed, af => (Region.ready .any ops listed = [] → K af) ∧ ∀ i ∈ Region.ready .any ops listed, stepS P ops σ i (anyS P ops σ K fuel (listed.setIfInBounds i true)) af
theorem stepS_mono {i : Nat} {K K' : AF → Prop} (h : ∀ af, K af → K' af) (hh : stepS P ops σ i K af) : stepS P ops σ i K' af := by
  unfold stepS at *
  split
  · rename_i h0; simp only [h0] at hh; exact h _ hh
  · rename_i o h0
    simp only [h0] at hh
    obtain ⟨av, h1, h2⟩ := hh
    exact ⟨av, h1, h _ h2⟩
theorem YieldsS.put {o oj : Oper} {av : AV} (x : AV) (h : ∀ d, oj.dst = some d → d ∉ o.looksAt ops) (hy : YieldsS P ops σ o av af) : YieldsS P ops σ o av (af.put oj.dst x) :=
  hy.imp (fun ⟨h1, h2⟩ => ⟨(Sat.put_iff x h).2 h1, h2⟩) (fun ⟨h1, h2⟩ => ⟨(Sat.put_iff x h).2 h1, h2.put x h⟩)
theorem YieldsS.unput {o oj : Oper} {av : AV} (x : AV) (h : ∀ d, oj.dst = some d → d ∉ o.looksAt ops) (hy : YieldsS P ops σ o av (af.put oj.dst x)) : YieldsS P ops σ o av af :=
  hy.imp (fun ⟨h1, h2⟩ => ⟨(Sat.put_iff x h).1 h1, h2⟩) (fun ⟨h1, h2⟩ => ⟨(Sat.put_iff x h).1 h1, h2.unput x h⟩)
theorem stepS_put {j : Nat} {oi oj : Oper} {av : AV} (hj : ops[j]? = some oj) (hap : oi.apart ops oj = true) {K : AF → Prop}
    (hy : YieldsS P ops σ oi av af) (h : stepS P ops σ j K (af.put oi.dst av)) : stepS P ops σ j (fun af' => YieldsS P ops σ oi av af' ∧ K (af'.put oi.dst av)) af := by
  obtain ⟨h1, h2, h3⟩ := Oper.apart_spec hap
  unfold stepS at *
  simp only [hj] at *
  obtain ⟨u, h4, h5⟩ := h
  refine ⟨u, h4.unput av h1, hy.put _ h3, ?_⟩
  rw [← AF.put_comm af av u h2]
  exact h5
theorem anyS_first {K : AF → Prop} {i : Nat} {oi : Oper} {av : AV} (hi : ops[i]? = some oi) :
    ∀ (fuel : Nat) (listed : Array Bool) (af : AF),
      (∀ j oj, ops[j]? = some oj → j ≠ i → listed.getD j true = false → (∀ e ∈ oj.after, Region.binds .any e = true → e.on ≠ i) → oi.apart ops oj = true) →
      i ∈ Region.ready .any ops listed → YieldsS P ops σ oi av af →
      anyS P ops σ K fuel (listed.setIfInBounds i true) (af.put oi.dst av) → anyS P ops σ K (fuel + 1) listed af := by
  intro fuel
  have one : ∀ {K' : AF → Prop} {af : AF}, YieldsS P ops σ oi av af → K' (af.put oi.dst av) → stepS P ops σ i K' af := fun hy hk => by
    unfold stepS; simp only [hi]; exact ⟨av, hy, hk⟩
  induction fuel with
  | zero =>
    intro listed af _ hr hy H
    refine ⟨fun h => (by rw [h] at hr; cases hr), fun j hj => ?_⟩
    by_cases hji : j = i
    · subst hji; exact one hy H
    · have := ready_mono hj hji
      rw [H.1] at this
      cases this
  | succ fuel ih =>
    intro listed af hfree hr hy H
    refine ⟨fun h => (by rw [h] at hr; cases hr), fun j hj => ?_⟩
    by_cases hji : j = i
    · subst hji; exact one hy H
    · have h1 := H.2 j (ready_mono hj hji)
      obtain ⟨hjun, oj, hoj, hall⟩ := mem_ready.1 hj
      have hnot : ∀ e ∈ oj.after, Region.binds .any e = true → e.on ≠ i := fun e he hb heq => by
        have h1 := hall e he hb
        have h0 := (mem_ready.1 hr).1
        rw [heq] at h1
        rcases Nat.lt_or_ge i listed.size with h' | h'
        · simp [h'] at h0 h1; rw [h0] at h1; cases h1
        · simp [Array.getElem?_eq_none h'] at h1
      have h2 := stepS_put hoj (hfree j oj hoj hji hjun hnot) hy h1
      have hfree' : ∀ k ok, ops[k]? = some ok → k ≠ i → (listed.setIfInBounds j true).getD k true = false →
          (∀ e ∈ ok.after, Region.binds .any e = true → e.on ≠ i) → oi.apart ops ok = true := fun k ok hk hki hun hno => by
        refine hfree k ok hk hki ?_ hno
        by_cases hjk : j = k
        · subst hjk; exact hjun
        · rw [getD_set_ne true hjk] at hun; exact hun
      refine stepS_mono (fun af' h3 => ih (listed.setIfInBounds j true) af' hfree' (ready_mono hr (Ne.symm hji)) h3.1 ?_) h2
      rw [Array.setIfInBounds_comm _ _ hji]
      exact h3.2
theorem anyA_of_anyS {K : AF → Items → Prop} : ∀ (fuel : Nat) (listed : Array Bool) (af : AF), anyS P ops σ (fun af => K af σ) fuel listed af → anyA P ops K fuel listed af σ
  | 0, _, _, h => h
  | fuel + 1, listed, af, h => by
    refine ⟨h.1, fun i hi => ?_⟩
    have h1 := h.2 i hi
    unfold stepS at h1
    unfold stepA
    split
    · rename_i h0; simp only [h0] at h1; exact anyA_of_anyS fuel _ _ h1
    · rename_i o h0
      simp only [h0] at h1
      obtain ⟨av, hy, hk⟩ := h1
      have hk' := anyA_of_anyS fuel _ _ hk
      rcases hy with ⟨g1, rfl⟩ | ⟨g1, g2⟩
      · exact .inl ⟨g1, hk'⟩
      · exact .inr ⟨g1, _, loud_of_reads g2, fun a s ⟨e1, e2⟩ => by subst e1 e2; exact hk'⟩

/-! ### The walk -/
def stp (m : Mode) (P : Program) (o : Oper) (af : AF) (σ : Items) (K : AF → Items → Prop) : Prop :=
  (m.q o = true ∧ opA P o af (fun af' => K af' σ)) ∨ (m.r o = true ∧ ∃ av, Reads P o af σ av ∧ K (af.put o.dst av) σ) ∨ (m.l o = true ∧ opB P o af σ K)
def Mode.isFree : Mode → Bool
  | .free => true
  | _ => false
/-- A step of thought, whatever the frame. -/
def SubU (af : AF) (σ : Items) (af' : AF) (σ' : Items) : Prop := ∀ E n, Sub E n af σ af' σ'
def Pre (m : Mode) (af : AF) (σ : Items) (af' : AF) (σ' : Items) : Prop := (af' = af ∧ σ' = σ) ∨ (m.isFree = true ∧ SubU af σ af' σ')
def wpG (m : Mode) (P : Program) (ops : Array Oper) (K : AF → Items → Prop) : List Oper → AF → Items → Prop
  | [], af, σ => K af σ
  | o :: rest, af, σ => ∃ af' σ', Pre m af σ af' σ' ∧ ((Sat ops o af' false ∧ wpG m P ops K rest (af'.put o.dst undefA) σ') ∨ (Sat ops o af' true ∧ stp m P o af' σ' (wpG m P ops K rest)))
theorem Pre.same {m : Mode} : Pre m af σ af σ := .inl ⟨rfl, rfl⟩
theorem G_sub {m : Mode} {af' : AF} {σ' : Items} {K : AF → Items → Prop} {o : Oper} {rest : List Oper} (hm : m.isFree = true) (h : SubU af σ af' σ') (h' : wpG m P ops K (o :: rest) af' σ') : wpG m P ops K (o :: rest) af σ := by
  obtain ⟨a, s, hp, hr⟩ := h'
  refine ⟨a, s, .inr ⟨hm, fun E n => ?_⟩, hr⟩
  rcases hp with ⟨rfl, rfl⟩ | ⟨_, hq⟩
  · exact h E n
  · exact fun x w hh => hq E n x w (h E n x w hh)

theorem opB_of_stp {m : Mode} {o : Oper} {K : AF → Items → Prop} (h : stp m P o af σ K) : opB P o af σ K := by
  rcases h with ⟨_, av, hq, hk⟩ | ⟨_, av, hr, hk⟩ | ⟨_, h⟩
  · exact ⟨_, loud_of_quiet σ hq, fun a s ⟨e1, e2⟩ => by subst e1 e2; exact hk⟩
  · exact ⟨_, loud_of_reads hr, fun a s ⟨e1, e2⟩ => by subst e1 e2; exact hk⟩
  · exact h
theorem stepA_of_G {m : Mode} {K : AF → Items → Prop} {k : Nat} {o : Oper} {rest : List Oper} (h0 : ops[k]? = some o) (h : (Sat ops o af false ∧ wpG m P ops K rest (af.put o.dst undefA) σ) ∨ (Sat ops o af true ∧ stp m P o af σ (wpG m P ops K rest))) : stepA P ops k (wpG m P ops K rest) af σ := by
  unfold stepA; simp only [h0]
  exact h.imp id (fun ⟨h1, h2⟩ => ⟨h1, opB_of_stp h2⟩)
theorem Pre.holds {m : Mode} {af' : AF} {σ' : Items} {a : Act} {w : World} (h : Pre m af σ af' σ') (hh : Holds E n af σ a w) : Holds E n af' σ' a w := by
  rcases h with ⟨rfl, rfl⟩ | ⟨_, h⟩
  · exact hh
  · exact h E n a w hh
theorem Pre.eqs {m : Mode} {af' : AF} {σ' : Items} (hm : m.isFree = false) (h : Pre m af σ af' σ') : af = af' ∧ σ = σ' := by
  rcases h with h | ⟨h, _⟩
  · exact ⟨h.1.symm, h.2.symm⟩
  · rw [hm] at h; cases h
theorem wpOps_of_G {m : Mode} (hd : dstB ops n = true) : ∀ (l : List Oper) (k : Nat) (af : AF) (σ : Items) (a : Act) (w : World), (∀ j, l[j]? = ops[k + j]?) →
    wpG m P ops (QA .normal) l af σ → Holds E n af σ a w → wpOps P ops (PostA E n QA) (List.range' k l.length) a w
  | [], _, af, σ, _, _, _, h, hh => ⟨af, σ, hh, h⟩
  | o :: l, k, af, σ, a, w, hl, h, hh => by
    have h0 : ops[k]? = some o := by simpa using (hl 0).symm
    rw [List.length_cons, List.range'_succ, wpOps_cons]
    obtain ⟨b, s, hp, h⟩ := h
    exact wpOp_mono (fun a' w' ⟨af', σ', hh', h'⟩ => wpOps_of_G hd l (k + 1) af' σ' a' w' (fun j => by have := hl (j + 1); simpa [Nat.add_assoc, Nat.add_comm 1 j] using this) h' hh') (wpOp_of_stepA hd (stepA_of_G h0 h) (hp.holds hh))
theorem wpM_of_G {louds : List FuncId} {K : AF → Items → Prop} : ∀ (l : List Oper) (af : AF) (σ : Items), wpG (.mixed louds) P ops K l af σ → wpM P ops louds K l af σ
  | [], _, _, h => h
  | o :: l, af, σ, h => by
    obtain ⟨b, s, hp, h⟩ := h
    obtain ⟨rfl, rfl⟩ := hp.eqs rfl
    rcases h with ⟨h1, h2⟩ | ⟨h1, h2⟩
    · have h2' := wpM_of_G l _ _ h2
      cases hq : quietKind louds o with
      | true => exact .inl ⟨hq, undefA, .inl ⟨h1, rfl⟩, h2'⟩
      | false => exact .inr ⟨hq, .inl ⟨h1, h2'⟩⟩
    · rcases h2 with ⟨hq, av, hqq, hk⟩ | ⟨hr, _⟩ | ⟨hl, post, hp, hk⟩
      · exact .inl ⟨hq, av, .inr ⟨h1, hqq⟩, wpM_of_G l _ _ hk⟩
      · exact absurd hr (by simp [Mode.r])
      · have hq : quietKind louds o = false := by simpa [Mode.l] using hl
        exact .inr ⟨hq, .inr ⟨h1, post, hp, fun av σ' hpp => wpM_of_G l _ _ (hk av σ' hpp)⟩⟩
theorem anyS_of_G {K : AF → Items → Prop} : ∀ (l : List Oper) (k : Nat) (listed : Array Bool) (af : AF), (∀ j, l[j]? = ops[k + j]?) →
    Region.lexFrom .any ops l.length k listed = true → wpG .still P ops K l af σ → anyS P ops σ (fun af => K af σ) l.length listed af
  | [], _, _, _, _, hB, h => ⟨by simpa [Region.lexFrom] using hB, h⟩
  | o :: l, k, listed, af, hl, hB, h => by
    have h0 : ops[k]? = some o := by simpa using (hl 0).symm
    simp only [List.length_cons, Region.lexFrom, Bool.and_eq_true] at hB
    obtain ⟨⟨hr, hf⟩, hB'⟩ := hB
    obtain ⟨b, s, hp, h⟩ := h
    obtain ⟨rfl, rfl⟩ := hp.eqs rfl
    have hy : ∃ av, YieldsS P ops σ o av af ∧ wpG .still P ops K l (af.put o.dst av) σ := by
      rcases h with ⟨h1, h2⟩ | ⟨h1, h2⟩
      · exact ⟨undefA, .inl ⟨h1, rfl⟩, h2⟩
      · rcases h2 with ⟨_, av, hqq, hk⟩ | ⟨_, av, hqq, hk⟩ | ⟨hl, _⟩
        · exact ⟨av, .inr ⟨h1, hqq.reads σ⟩, hk⟩
        · exact ⟨av, .inr ⟨h1, hqq⟩, hk⟩
        · exact absurd hl (by simp [Mode.l])
    obtain ⟨av, hy, hK⟩ := hy
    exact anyS_first h0 l.length listed af (Region.free_spec h0 hf) (by simpa using hr) hy
      (anyS_of_G l (k + 1) _ _ (fun j => by have := hl (j + 1); simpa [Nat.add_assoc, Nat.add_comm 1 j] using this) hB' hK)

def regB (m : Mode) (l : List Oper) (n : Nat) (draw : Bool) : Bool :=
  dstB l.toArray n && (!draw || match m with
    | .free => false
    | .still => Region.lexFrom .any l.toArray l.length 0 (Array.replicate l.length false)
    | .mixed louds => lexMB l.toArray louds l 0 (Array.replicate l.length false))
variable {ks : List KFr}
theorem k_reg (m : Mode) {id : Nat} {l : List Oper} {draw : Bool} (hm : P.follows .mixedOrders = true) (hB : regB m l n draw = true)
    (h : wpG m P l.toArray (den P E n ks .normal) l af σ) : awp P E n (.region id l.toArray draw) (den P E n ks) af σ := by
  simp only [regB, Bool.and_eq_true] at hB
  intro a w hh
  cases draw with
  | false =>
    refine wp_region ?_
    have h1 := wpOps_of_G hB.1 l 0 af σ a w (by simp) h hh
    simpa [List.range_eq_range'] using h1
  | true =>
    refine wp_region_any hm ?_
    cases m with
    | free => simp at hB
    | still =>
      have h1 := anyA_of_anyS _ _ _ (anyS_of_G (K := den P E n ks .normal) l 0 (Array.replicate l.length false) af (by simp) (by simpa using hB.2) h)
      simpa using wpAny_of_anyA hB.1 _ _ af σ a _ h1 hh.drew
    | mixed louds =>
      have h1 := anyA_of_lexM l 0 (Array.replicate l.length false) af σ (by simp) (by simpa using hB.2) (wpM_of_G _ _ _ h)
      simpa using wpAny_of_anyA hB.1 _ _ af σ a _ h1 hh.drew

/-! ### One operation -/
variable {m : Mode} {K : AF → Items → Prop} {rest : List Oper} {dst : Option Tmp} {op : Op} {ty0 : TypeId} {pos0 : String} {after0 : Array Edge} {gd : Option (Nat × Bool)}
def opR (P : Program) (o : Oper) (af : AF) (σ : Items) (K : AF → Prop) : Prop := ∃ av, Reads P o af σ av ∧ K (af.put o.dst av)
theorem G_nil (h : K af σ) : wpG m P ops K [] af σ := h
theorem G_q (hq : m.q ⟨dst, op, ty0, pos0, after0, none⟩ = true) (h : opA P ⟨dst, op, ty0, pos0, after0, none⟩ af (fun af' => wpG m P ops K rest af' σ)) : wpG m P ops K (⟨dst, op, ty0, pos0, after0, none⟩ :: rest) af σ :=
  ⟨_, _, Pre.same, .inr ⟨.inl ⟨rfl, rfl⟩, .inl ⟨hq, h⟩⟩⟩
theorem G_r (hq : m.r ⟨dst, op, ty0, pos0, after0, none⟩ = true) (h : opR P ⟨dst, op, ty0, pos0, after0, none⟩ af σ (fun af' => wpG m P ops K rest af' σ)) : wpG m P ops K (⟨dst, op, ty0, pos0, after0, none⟩ :: rest) af σ :=
  ⟨_, _, Pre.same, .inr ⟨.inl ⟨rfl, rfl⟩, .inr (.inl ⟨hq, h⟩)⟩⟩
theorem G_l (hq : m.l ⟨dst, op, ty0, pos0, after0, none⟩ = true) (h : opB P ⟨dst, op, ty0, pos0, after0, none⟩ af σ (wpG m P ops K rest)) : wpG m P ops K (⟨dst, op, ty0, pos0, after0, none⟩ :: rest) af σ :=
  ⟨_, _, Pre.same, .inr ⟨.inl ⟨rfl, rfl⟩, .inr (.inr ⟨hq, h⟩)⟩⟩
variable {j : Nat} {want : Bool} {dg : Tmp} {c : Bool} {p : Prop} [Decidable p]
theorem Sat.mk (hj : (ops[j]?).bind (·.dst) = some dg) (hv : af dg = .exact (.bool c)) : Sat ops ⟨dst, op, ty0, pos0, after0, some (j, want)⟩ af (some c == some want) := .inr ⟨j, want, dg, .bool c, rfl, hj, hv, rfl⟩
theorem Gy_q (hj : (ops[j]?).bind (·.dst) = some dg) (hv : af dg = .exact (.bool want)) (hq : m.q ⟨dst, op, ty0, pos0, after0, some (j, want)⟩ = true) (h : opA P ⟨dst, op, ty0, pos0, after0, some (j, want)⟩ af (fun af' => wpG m P ops K rest af' σ)) : wpG m P ops K (⟨dst, op, ty0, pos0, after0, some (j, want)⟩ :: rest) af σ :=
  ⟨_, _, Pre.same, .inr ⟨by simpa using Sat.mk (want := want) hj hv, .inl ⟨hq, h⟩⟩⟩
theorem Gy_r (hj : (ops[j]?).bind (·.dst) = some dg) (hv : af dg = .exact (.bool want)) (hq : m.r ⟨dst, op, ty0, pos0, after0, some (j, want)⟩ = true) (h : opR P ⟨dst, op, ty0, pos0, after0, some (j, want)⟩ af σ (fun af' => wpG m P ops K rest af' σ)) : wpG m P ops K (⟨dst, op, ty0, pos0, after0, some (j, want)⟩ :: rest) af σ :=
  ⟨_, _, Pre.same, .inr ⟨by simpa using Sat.mk (want := want) hj hv, .inr (.inl ⟨hq, h⟩)⟩⟩
theorem Gy_l (hj : (ops[j]?).bind (·.dst) = some dg) (hv : af dg = .exact (.bool want)) (hq : m.l ⟨dst, op, ty0, pos0, after0, some (j, want)⟩ = true) (h : opB P ⟨dst, op, ty0, pos0, after0, some (j, want)⟩ af σ (wpG m P ops K rest)) : wpG m P ops K (⟨dst, op, ty0, pos0, after0, some (j, want)⟩ :: rest) af σ :=
  ⟨_, _, Pre.same, .inr ⟨by simpa using Sat.mk (want := want) hj hv, .inr (.inr ⟨hq, h⟩)⟩⟩
theorem G_n (hj : (ops[j]?).bind (·.dst) = some dg) (hv : af dg = .exact (.bool (!want))) (h : wpG m P ops K rest (af.put dst undefA) σ) : wpG m P ops K (⟨dst, op, ty0, pos0, after0, some (j, want)⟩ :: rest) af σ :=
  ⟨_, _, Pre.same, .inl ⟨by simpa using Sat.mk (want := want) hj hv, h⟩⟩
theorem G_u (hj : (ops[j]?).bind (·.dst) = some dg) (hv : af dg = undefA) (h : wpG m P ops K rest (af.put dst undefA) σ) : wpG m P ops K (⟨dst, op, ty0, pos0, after0, some (j, want)⟩ :: rest) af σ :=
  ⟨_, _, Pre.same, .inl ⟨.inr ⟨j, want, dg, undef, rfl, hj, hv, rfl⟩, h⟩⟩
theorem put_b {b : Bool} (hv : af dg = .exact (.bool c)) (hb : c = b) : af.put (some dg) (.exact (.bool b)) = af := by
  funext t
  by_cases ht : t = dg
  · subst ht; rw [AF.put_same, hv, hb]
  · rw [AF.put_other _ _ ht]
theorem G_split {l : List Oper} (dg : Tmp) (hv : af dg = .exact (.bool (decide p))) (h1 : p → wpG m P ops K l (af.put (some dg) (.exact (.bool true))) σ) (h2 : ¬ p → wpG m P ops K l (af.put (some dg) (.exact (.bool false))) σ) : wpG m P ops K l af σ := by
  by_cases hp : p
  · have := h1 hp; rwa [put_b hv (by simp [hp])] at this
  · have := h2 hp; rwa [put_b hv (by simp [hp])] at this
theorem G_splitB {l : List Oper} (dg : Tmp) (hv : af dg = .exact (.bool c)) (h1 : c = true → wpG m P ops K l (af.put (some dg) (.exact (.bool true))) σ) (h2 : ¬ c = true → wpG m P ops K l (af.put (some dg) (.exact (.bool false))) σ) : wpG m P ops K l af σ := by
  by_cases hp : c = true
  · have := h1 hp; rwa [put_b hv hp] at this
  · have := h2 hp; rwa [put_b hv (by simpa using hp)] at this
theorem k_cond_b {x : Operand} {y z : Code} {c : Bool} (hc : af.ev x = .exact (.bool c)) (ht : c = true → awp P E n y (den P E n ks) af σ) (hf : ¬ c = true → awp P E n z (den P E n ks) af σ) : awp P E n (.cond x y z) (den P E n ks) af σ := awp_cond c hc ht (fun h => hf (by simp [h]))

/-! ### Ends -/
theorem end_sub {fn : Func} {post : AV → Items → Prop} {af' : AF} {σ' : Items} (h : Sub E n af σ af' σ') (h' : EndA fn E n post .ret af' σ') : EndA fn E n post .ret af σ := by
  obtain ⟨a, s, h1, h2⟩ := h'
  exact ⟨a, s, h.trans h1, h2⟩
theorem endNn {fn : Func} {post : AV → Items → Prop} {af' : AF} {σ' : Items} (rs : List ResultVar) (hr : fn.results.toList = rs) (h : Sub E n af σ af' σ') (hp : post (resA rs af') σ') : EndA fn E n post .normal af σ := ⟨af', σ', h, by rw [hr]; exact hp⟩
theorem endN {fn : Func} {post : AV → Items → Prop} {af' : AF} {σ' : Items} (rs : List ResultVar) (hr : fn.results.toList = rs) (h : Sub E n af σ af' σ') (hp : post (resA rs af') σ') : EndA fn E n post .ret af σ := ⟨af', σ', h, by rw [hr]; exact hp⟩
end

section
variable {P : Program} {E : Env} {n : Nat} {af : AF} {σ : Items} {ks : List KFr} {x y : Code} {ρ : Type} {r : ρ}
theorem k_join0_0 {k : (Unit → Option ρ)} {m : (Unit → Option ρ) → Option ρ} (h : jn k m = some r) (I : AF) (S : Items)
    (h1 : ∀ k' : (Unit → Option ρ), m k' = some r → awp P E n x (den P E n (kI (fun af' σ' => k' () = some r ∧ Sub E n af' σ' (I) (S)) :: ks)) af σ)
    (h2 : k () = some r → awp P E n y (den P E n ks) (I) (S)) : awp P E n (.seq x y) (den P E n ks) af σ := by
  refine k_seq (fun a w hh => wp_mono (h1 k h a w hh) ?_)
  rintro e a' w' ⟨af', σ', hh', h'⟩
  cases e with
  | normal =>
    obtain ⟨h3, h4⟩ := h'
    exact ⟨_, _, h4 _ _ hh', h2 h3⟩
  | _ => exact ⟨af', σ', hh', h'⟩
theorem k_loop0_0 (L : Nat → (Unit → Option ρ)) (B : (Unit → Option ρ) → (Unit → Option ρ)) (hz : ∀ u : Unit, L 0 u = none) (hs : ∀ (m : Nat) (u : Unit), L (m + 1) u = B (L m) u) {m0 : Nat} (h : L m0 () = some r)
    (I : AF) (S : Items) (start : Sub E n af σ (I) (S))
    (round : ∀ rec : (Unit → Option ρ), B rec () = some r → awp P E n x (den P E n (kI (fun af' σ' => rec () = some r ∧ Sub E n af' σ' (I) (S)) :: ks)) (I) (S)) : awp P E n (.loop x) (den P E n ks) af σ := by
  refine awp_loop (α := Nat × Unit) (fun v => I) (fun v => S) (fun v => L v.1 () = some r) (fun v => v.1) (m0, ()) h start (fun v hv => ?_)
  obtain ⟨m, u0⟩ := v
  dsimp only at hv ⊢
  cases m with
  | zero => rw [hz] at hv; cases hv
  | succ m =>
    rw [hs] at hv
    refine awp_mono (round (L m) hv) ?_
    intro e af' σ' h'
    cases e with
    | normal =>
      obtain ⟨h3, h4⟩ := h'
      exact ⟨(m, ()), h3, Nat.lt_succ_self m, h4⟩
    | _ => exact h'
theorem k_join0_1 {γ0 : Type} {k : (Unit → Option ρ)} {m : (Unit → Option ρ) → Option ρ} (h : jn k m = some r) (I : γ0 → AF) (S : γ0 → Items)
    (h1 : ∀ k' : (Unit → Option ρ), m k' = some r → awp P E n x (den P E n (kI (fun af' σ' => ∃ g0, k' () = some r ∧ Sub E n af' σ' (I g0) (S g0)) :: ks)) af σ)
    (h2 : ∀ g0, k () = some r → awp P E n y (den P E n ks) (I g0) (S g0)) : awp P E n (.seq x y) (den P E n ks) af σ := by
  refine k_seq (fun a w hh => wp_mono (h1 k h a w hh) ?_)
  rintro e a' w' ⟨af', σ', hh', h'⟩
  cases e with
  | normal =>
    obtain ⟨g0, h3, h4⟩ := h'
    exact ⟨_, _, h4 _ _ hh', h2 g0 h3⟩
  | _ => exact ⟨af', σ', hh', h'⟩
theorem k_loop0_1 {γ0 : Type} (L : Nat → (Unit → Option ρ)) (B : (Unit → Option ρ) → (Unit → Option ρ)) (hz : ∀ u : Unit, L 0 u = none) (hs : ∀ (m : Nat) (u : Unit), L (m + 1) u = B (L m) u) {m0 : Nat} (h : L m0 () = some r)
    (I : γ0 → AF) (S : γ0 → Items) (c0 : γ0) (start : Sub E n af σ (I c0) (S c0))
    (round : ∀ rec : (Unit → Option ρ), ∀ g0, B rec () = some r → awp P E n x (den P E n (kI (fun af' σ' => ∃ g0, rec () = some r ∧ Sub E n af' σ' (I g0) (S g0)) :: ks)) (I g0) (S g0)) : awp P E n (.loop x) (den P E n ks) af σ := by
  refine awp_loop (α := Nat × γ0) (fun v => I v.2) (fun v => S v.2) (fun v => L v.1 () = some r) (fun v => v.1) (m0, c0) h start (fun v hv => ?_)
  obtain ⟨m, g0⟩ := v
  dsimp only at hv ⊢
  cases m with
  | zero => rw [hz] at hv; cases hv
  | succ m =>
    rw [hs] at hv
    refine awp_mono (round (L m) g0 hv) ?_
    intro e af' σ' h'
    cases e with
    | normal =>
      obtain ⟨g0, h3, h4⟩ := h'
      exact ⟨(m, g0), h3, Nat.lt_succ_self m, h4⟩
    | _ => exact h'
theorem k_join0_2 {γ0 γ1 : Type} {k : (Unit → Option ρ)} {m : (Unit → Option ρ) → Option ρ} (h : jn k m = some r) (I : γ0 → γ1 → AF) (S : γ0 → γ1 → Items)
    (h1 : ∀ k' : (Unit → Option ρ), m k' = some r → awp P E n x (den P E n (kI (fun af' σ' => ∃ g0 g1, k' () = some r ∧ Sub E n af' σ' (I g0 g1) (S g0 g1)) :: ks)) af σ)
    (h2 : ∀ g0 g1, k () = some r → awp P E n y (den P E n ks) (I g0 g1) (S g0 g1)) : awp P E n (.seq x y) (den P E n ks) af σ := by
  refine k_seq (fun a w hh => wp_mono (h1 k h a w hh) ?_)
  rintro e a' w' ⟨af', σ', hh', h'⟩
  cases e with
  | normal =>
    obtain ⟨g0, g1, h3, h4⟩ := h'
    exact ⟨_, _, h4 _ _ hh', h2 g0 g1 h3⟩
  | _ => exact ⟨af', σ', hh', h'⟩
theorem k_loop0_2 {γ0 γ1 : Type} (L : Nat → (Unit → Option ρ)) (B : (Unit → Option ρ) → (Unit → Option ρ)) (hz : ∀ u : Unit, L 0 u = none) (hs : ∀ (m : Nat) (u : Unit), L (m + 1) u = B (L m) u) {m0 : Nat} (h : L m0 () = some r)
    (I : γ0 → γ1 → AF) (S : γ0 → γ1 → Items) (c0 : γ0) (c1 : γ1) (start : Sub E n af σ (I c0 c1) (S c0 c1))
    (round : ∀ rec : (Unit → Option ρ), ∀ g0 g1, B rec () = some r → awp P E n x (den P E n (kI (fun af' σ' => ∃ g0 g1, rec () = some r ∧ Sub E n af' σ' (I g0 g1) (S g0 g1)) :: ks)) (I g0 g1) (S g0 g1)) : awp P E n (.loop x) (den P E n ks) af σ := by
  refine awp_loop (α := Nat × γ0 × γ1) (fun v => I v.2.1 v.2.2) (fun v => S v.2.1 v.2.2) (fun v => L v.1 () = some r) (fun v => v.1) (m0, c0, c1) h start (fun v hv => ?_)
  obtain ⟨m, g0, g1⟩ := v
  dsimp only at hv ⊢
  cases m with
  | zero => rw [hz] at hv; cases hv
  | succ m =>
    rw [hs] at hv
    refine awp_mono (round (L m) g0 g1 hv) ?_
    intro e af' σ' h'
    cases e with
    | normal =>
      obtain ⟨g0, g1, h3, h4⟩ := h'
      exact ⟨(m, g0, g1), h3, Nat.lt_succ_self m, h4⟩
    | _ => exact h'
theorem k_join0_3 {γ0 γ1 γ2 : Type} {k : (Unit → Option ρ)} {m : (Unit → Option ρ) → Option ρ} (h : jn k m = some r) (I : γ0 → γ1 → γ2 → AF) (S : γ0 → γ1 → γ2 → Items)
    (h1 : ∀ k' : (Unit → Option ρ), m k' = some r → awp P E n x (den P E n (kI (fun af' σ' => ∃ g0 g1 g2, k' () = some r ∧ Sub E n af' σ' (I g0 g1 g2) (S g0 g1 g2)) :: ks)) af σ)
    (h2 : ∀ g0 g1 g2, k () = some r → awp P E n y (den P E n ks) (I g0 g1 g2) (S g0 g1 g2)) : awp P E n (.seq x y) (den P E n ks) af σ := by
  refine k_seq (fun a w hh => wp_mono (h1 k h a w hh) ?_)
  rintro e a' w' ⟨af', σ', hh', h'⟩
  cases e with
  | normal =>
    obtain ⟨g0, g1, g2, h3, h4⟩ := h'
    exact ⟨_, _, h4 _ _ hh', h2 g0 g1 g2 h3⟩
  | _ => exact ⟨af', σ', hh', h'⟩
theorem k_loop0_3 {γ0 γ1 γ2 : Type} (L : Nat → (Unit → Option ρ)) (B : (Unit → Option ρ) → (Unit → Option ρ)) (hz : ∀ u : Unit, L 0 u = none) (hs : ∀ (m : Nat) (u : Unit), L (m + 1) u = B (L m) u) {m0 : Nat} (h : L m0 () = some r)
    (I : γ0 → γ1 → γ2 → AF) (S : γ0 → γ1 → γ2 → Items) (c0 : γ0) (c1 : γ1) (c2 : γ2) (start : Sub E n af σ (I c0 c1 c2) (S c0 c1 c2))
    (round : ∀ rec : (Unit → Option ρ), ∀ g0 g1 g2, B rec () = some r → awp P E n x (den P E n (kI (fun af' σ' => ∃ g0 g1 g2, rec () = some r ∧ Sub E n af' σ' (I g0 g1 g2) (S g0 g1 g2)) :: ks)) (I g0 g1 g2) (S g0 g1 g2)) : awp P E n (.loop x) (den P E n ks) af σ := by
  refine awp_loop (α := Nat × γ0 × γ1 × γ2) (fun v => I v.2.1 v.2.2.1 v.2.2.2) (fun v => S v.2.1 v.2.2.1 v.2.2.2) (fun v => L v.1 () = some r) (fun v => v.1) (m0, c0, c1, c2) h start (fun v hv => ?_)
  obtain ⟨m, g0, g1, g2⟩ := v
  dsimp only at hv ⊢
  cases m with
  | zero => rw [hz] at hv; cases hv
  | succ m =>
    rw [hs] at hv
    refine awp_mono (round (L m) g0 g1 g2 hv) ?_
    intro e af' σ' h'
    cases e with
    | normal =>
      obtain ⟨g0, g1, g2, h3, h4⟩ := h'
      exact ⟨(m, g0, g1, g2), h3, Nat.lt_succ_self m, h4⟩
    | _ => exact h'
theorem k_join0_4 {γ0 γ1 γ2 γ3 : Type} {k : (Unit → Option ρ)} {m : (Unit → Option ρ) → Option ρ} (h : jn k m = some r) (I : γ0 → γ1 → γ2 → γ3 → AF) (S : γ0 → γ1 → γ2 → γ3 → Items)
    (h1 : ∀ k' : (Unit → Option ρ), m k' = some r → awp P E n x (den P E n (kI (fun af' σ' => ∃ g0 g1 g2 g3, k' () = some r ∧ Sub E n af' σ' (I g0 g1 g2 g3) (S g0 g1 g2 g3)) :: ks)) af σ)
    (h2 : ∀ g0 g1 g2 g3, k () = some r → awp P E n y (den P E n ks) (I g0 g1 g2 g3) (S g0 g1 g2 g3)) : awp P E n (.seq x y) (den P E n ks) af σ := by
  refine k_seq (fun a w hh => wp_mono (h1 k h a w hh) ?_)
  rintro e a' w' ⟨af', σ', hh', h'⟩
  cases e with
  | normal =>
    obtain ⟨g0, g1, g2, g3, h3, h4⟩ := h'
    exact ⟨_, _, h4 _ _ hh', h2 g0 g1 g2 g3 h3⟩
  | _ => exact ⟨af', σ', hh', h'⟩
theorem k_loop0_4 {γ0 γ1 γ2 γ3 : Type} (L : Nat → (Unit → Option ρ)) (B : (Unit → Option ρ) → (Unit → Option ρ)) (hz : ∀ u : Unit, L 0 u = none) (hs : ∀ (m : Nat) (u : Unit), L (m + 1) u = B (L m) u) {m0 : Nat} (h : L m0 () = some r)
    (I : γ0 → γ1 → γ2 → γ3 → AF) (S : γ0 → γ1 → γ2 → γ3 → Items) (c0 : γ0) (c1 : γ1) (c2 : γ2) (c3 : γ3) (start : Sub E n af σ (I c0 c1 c2 c3) (S c0 c1 c2 c3))
    (round : ∀ rec : (Unit → Option ρ), ∀ g0 g1 g2 g3, B rec () = some r → awp P E n x (den P E n (kI (fun af' σ' => ∃ g0 g1 g2 g3, rec () = some r ∧ Sub E n af' σ' (I g0 g1 g2 g3) (S g0 g1 g2 g3)) :: ks)) (I g0 g1 g2 g3) (S g0 g1 g2 g3)) : awp P E n (.loop x) (den P E n ks) af σ := by
  refine awp_loop (α := Nat × γ0 × γ1 × γ2 × γ3) (fun v => I v.2.1 v.2.2.1 v.2.2.2.1 v.2.2.2.2) (fun v => S v.2.1 v.2.2.1 v.2.2.2.1 v.2.2.2.2) (fun v => L v.1 () = some r) (fun v => v.1) (m0, c0, c1, c2, c3) h start (fun v hv => ?_)
  obtain ⟨m, g0, g1, g2, g3⟩ := v
  dsimp only at hv ⊢
  cases m with
  | zero => rw [hz] at hv; cases hv
  | succ m =>
    rw [hs] at hv
    refine awp_mono (round (L m) g0 g1 g2 g3 hv) ?_
    intro e af' σ' h'
    cases e with
    | normal =>
      obtain ⟨g0, g1, g2, g3, h3, h4⟩ := h'
      exact ⟨(m, g0, g1, g2, g3), h3, Nat.lt_succ_self m, h4⟩
    | _ => exact h'
theorem k_join1_0 {α0 : Type} {k : (α0 → Option ρ)} {m : (α0 → Option ρ) → Option ρ} (h : jn k m = some r) (I : α0 → AF) (S : α0 → Items)
    (h1 : ∀ k' : (α0 → Option ρ), m k' = some r → awp P E n x (den P E n (kI (fun af' σ' => ∃ a0, k' a0 = some r ∧ Sub E n af' σ' (I a0) (S a0)) :: ks)) af σ)
    (h2 : ∀ a0, k a0 = some r → awp P E n y (den P E n ks) (I a0) (S a0)) : awp P E n (.seq x y) (den P E n ks) af σ := by
  refine k_seq (fun a w hh => wp_mono (h1 k h a w hh) ?_)
  rintro e a' w' ⟨af', σ', hh', h'⟩
  cases e with
  | normal =>
    obtain ⟨a0, h3, h4⟩ := h'
    exact ⟨_, _, h4 _ _ hh', h2 a0 h3⟩
  | _ => exact ⟨af', σ', hh', h'⟩
theorem k_loop1_0 {α0 : Type} (L : Nat → (α0 → Option ρ)) (B : (α0 → Option ρ) → (α0 → Option ρ)) (hz : ∀ a0, L 0 a0 = none) (hs : ∀ m, ∀ a0, L (m + 1) a0 = B (L m) a0) {m0 : Nat} {b0 : α0} (h : L m0 b0 = some r)
    (I : α0 → AF) (S : α0 → Items) (start : Sub E n af σ (I b0) (S b0))
    (round : ∀ rec : (α0 → Option ρ), ∀ a0, B rec a0 = some r → awp P E n x (den P E n (kI (fun af' σ' => ∃ a0, rec a0 = some r ∧ Sub E n af' σ' (I a0) (S a0)) :: ks)) (I a0) (S a0)) : awp P E n (.loop x) (den P E n ks) af σ := by
  refine awp_loop (α := Nat × α0) (fun v => I v.2) (fun v => S v.2) (fun v => L v.1 v.2 = some r) (fun v => v.1) (m0, b0) h start (fun v hv => ?_)
  obtain ⟨m, a0⟩ := v
  dsimp only at hv ⊢
  cases m with
  | zero => rw [hz] at hv; cases hv
  | succ m =>
    rw [hs] at hv
    refine awp_mono (round (L m) a0 hv) ?_
    intro e af' σ' h'
    cases e with
    | normal =>
      obtain ⟨a0, h3, h4⟩ := h'
      exact ⟨(m, a0), h3, Nat.lt_succ_self m, h4⟩
    | _ => exact h'
theorem k_join1_1 {α0 γ0 : Type} {k : (α0 → Option ρ)} {m : (α0 → Option ρ) → Option ρ} (h : jn k m = some r) (I : α0 → γ0 → AF) (S : α0 → γ0 → Items)
    (h1 : ∀ k' : (α0 → Option ρ), m k' = some r → awp P E n x (den P E n (kI (fun af' σ' => ∃ a0 g0, k' a0 = some r ∧ Sub E n af' σ' (I a0 g0) (S a0 g0)) :: ks)) af σ)
    (h2 : ∀ a0 g0, k a0 = some r → awp P E n y (den P E n ks) (I a0 g0) (S a0 g0)) : awp P E n (.seq x y) (den P E n ks) af σ := by
  refine k_seq (fun a w hh => wp_mono (h1 k h a w hh) ?_)
  rintro e a' w' ⟨af', σ', hh', h'⟩
  cases e with
  | normal =>
    obtain ⟨a0, g0, h3, h4⟩ := h'
    exact ⟨_, _, h4 _ _ hh', h2 a0 g0 h3⟩
  | _ => exact ⟨af', σ', hh', h'⟩
theorem k_loop1_1 {α0 γ0 : Type} (L : Nat → (α0 → Option ρ)) (B : (α0 → Option ρ) → (α0 → Option ρ)) (hz : ∀ a0, L 0 a0 = none) (hs : ∀ m, ∀ a0, L (m + 1) a0 = B (L m) a0) {m0 : Nat} {b0 : α0} (h : L m0 b0 = some r)
    (I : α0 → γ0 → AF) (S : α0 → γ0 → Items) (c0 : γ0) (start : Sub E n af σ (I b0 c0) (S b0 c0))
    (round : ∀ rec : (α0 → Option ρ), ∀ a0 g0, B rec a0 = some r → awp P E n x (den P E n (kI (fun af' σ' => ∃ a0 g0, rec a0 = some r ∧ Sub E n af' σ' (I a0 g0) (S a0 g0)) :: ks)) (I a0 g0) (S a0 g0)) : awp P E n (.loop x) (den P E n ks) af σ := by
  refine awp_loop (α := Nat × α0 × γ0) (fun v => I v.2.1 v.2.2) (fun v => S v.2.1 v.2.2) (fun v => L v.1 v.2.1 = some r) (fun v => v.1) (m0, b0, c0) h start (fun v hv => ?_)
  obtain ⟨m, a0, g0⟩ := v
  dsimp only at hv ⊢
  cases m with
  | zero => rw [hz] at hv; cases hv
  | succ m =>
    rw [hs] at hv
    refine awp_mono (round (L m) a0 g0 hv) ?_
    intro e af' σ' h'
    cases e with
    | normal =>
      obtain ⟨a0, g0, h3, h4⟩ := h'
      exact ⟨(m, a0, g0), h3, Nat.lt_succ_self m, h4⟩
    | _ => exact h'
theorem k_join1_2 {α0 γ0 γ1 : Type} {k : (α0 → Option ρ)} {m : (α0 → Option ρ) → Option ρ} (h : jn k m = some r) (I : α0 → γ0 → γ1 → AF) (S : α0 → γ0 → γ1 → Items)
    (h1 : ∀ k' : (α0 → Option ρ), m k' = some r → awp P E n x (den P E n (kI (fun af' σ' => ∃ a0 g0 g1, k' a0 = some r ∧ Sub E n af' σ' (I a0 g0 g1) (S a0 g0 g1)) :: ks)) af σ)
    (h2 : ∀ a0 g0 g1, k a0 = some r → awp P E n y (den P E n ks) (I a0 g0 g1) (S a0 g0 g1)) : awp P E n (.seq x y) (den P E n ks) af σ := by
  refine k_seq (fun a w hh => wp_mono (h1 k h a w hh) ?_)
  rintro e a' w' ⟨af', σ', hh', h'⟩
  cases e with
  | normal =>
    obtain ⟨a0, g0, g1, h3, h4⟩ := h'
    exact ⟨_, _, h4 _ _ hh', h2 a0 g0 g1 h3⟩
  | _ => exact ⟨af', σ', hh', h'⟩
theorem k_loop1_2 {α0 γ0 γ1 : Type} (L : Nat → (α0 → Option ρ)) (B : (α0 → Option ρ) → (α0 → Option ρ)) (hz : ∀ a0, L 0 a0 = none) (hs : ∀ m, ∀ a0, L (m + 1) a0 = B (L m) a0) {m0 : Nat} {b0 : α0} (h : L m0 b0 = some r)
    (I : α0 → γ0 → γ1 → AF) (S : α0 → γ0 → γ1 → Items) (c0 : γ0) (c1 : γ1) (start : Sub E n af σ (I b0 c0 c1) (S b0 c0 c1))
    (round : ∀ rec : (α0 → Option ρ), ∀ a0 g0 g1, B rec a0 = some r → awp P E n x (den P E n (kI (fun af' σ' => ∃ a0 g0 g1, rec a0 = some r ∧ Sub E n af' σ' (I a0 g0 g1) (S a0 g0 g1)) :: ks)) (I a0 g0 g1) (S a0 g0 g1)) : awp P E n (.loop x) (den P E n ks) af σ := by
  refine awp_loop (α := Nat × α0 × γ0 × γ1) (fun v => I v.2.1 v.2.2.1 v.2.2.2) (fun v => S v.2.1 v.2.2.1 v.2.2.2) (fun v => L v.1 v.2.1 = some r) (fun v => v.1) (m0, b0, c0, c1) h start (fun v hv => ?_)
  obtain ⟨m, a0, g0, g1⟩ := v
  dsimp only at hv ⊢
  cases m with
  | zero => rw [hz] at hv; cases hv
  | succ m =>
    rw [hs] at hv
    refine awp_mono (round (L m) a0 g0 g1 hv) ?_
    intro e af' σ' h'
    cases e with
    | normal =>
      obtain ⟨a0, g0, g1, h3, h4⟩ := h'
      exact ⟨(m, a0, g0, g1), h3, Nat.lt_succ_self m, h4⟩
    | _ => exact h'
theorem k_join1_3 {α0 γ0 γ1 γ2 : Type} {k : (α0 → Option ρ)} {m : (α0 → Option ρ) → Option ρ} (h : jn k m = some r) (I : α0 → γ0 → γ1 → γ2 → AF) (S : α0 → γ0 → γ1 → γ2 → Items)
    (h1 : ∀ k' : (α0 → Option ρ), m k' = some r → awp P E n x (den P E n (kI (fun af' σ' => ∃ a0 g0 g1 g2, k' a0 = some r ∧ Sub E n af' σ' (I a0 g0 g1 g2) (S a0 g0 g1 g2)) :: ks)) af σ)
    (h2 : ∀ a0 g0 g1 g2, k a0 = some r → awp P E n y (den P E n ks) (I a0 g0 g1 g2) (S a0 g0 g1 g2)) : awp P E n (.seq x y) (den P E n ks) af σ := by
  refine k_seq (fun a w hh => wp_mono (h1 k h a w hh) ?_)
  rintro e a' w' ⟨af', σ', hh', h'⟩
  cases e with
  | normal =>
    obtain ⟨a0, g0, g1, g2, h3, h4⟩ := h'
    exact ⟨_, _, h4 _ _ hh', h2 a0 g0 g1 g2 h3⟩
  | _ => exact ⟨af', σ', hh', h'⟩
theorem k_loop1_3 {α0 γ0 γ1 γ2 : Type} (L : Nat → (α0 → Option ρ)) (B : (α0 → Option ρ) → (α0 → Option ρ)) (hz : ∀ a0, L 0 a0 = none) (hs : ∀ m, ∀ a0, L (m + 1) a0 = B (L m) a0) {m0 : Nat} {b0 : α0} (h : L m0 b0 = some r)
    (I : α0 → γ0 → γ1 → γ2 → AF) (S : α0 → γ0 → γ1 → γ2 → Items) (c0 : γ0) (c1 : γ1) (c2 : γ2) (start : Sub E n af σ (I b0 c0 c1 c2) (S b0 c0 c1 c2))
    (round : ∀ rec : (α0 → Option ρ), ∀ a0 g0 g1 g2, B rec a0 = some r → awp P E n x (den P E n (kI (fun af' σ' => ∃ a0 g0 g1 g2, rec a0 = some r ∧ Sub E n af' σ' (I a0 g0 g1 g2) (S a0 g0 g1 g2)) :: ks)) (I a0 g0 g1 g2) (S a0 g0 g1 g2)) : awp P E n (.loop x) (den P E n ks) af σ := by
  refine awp_loop (α := Nat × α0 × γ0 × γ1 × γ2) (fun v => I v.2.1 v.2.2.1 v.2.2.2.1 v.2.2.2.2) (fun v => S v.2.1 v.2.2.1 v.2.2.2.1 v.2.2.2.2) (fun v => L v.1 v.2.1 = some r) (fun v => v.1) (m0, b0, c0, c1, c2) h start (fun v hv => ?_)
  obtain ⟨m, a0, g0, g1, g2⟩ := v
  dsimp only at hv ⊢
  cases m with
  | zero => rw [hz] at hv; cases hv
  | succ m =>
    rw [hs] at hv
    refine awp_mono (round (L m) a0 g0 g1 g2 hv) ?_
    intro e af' σ' h'
    cases e with
    | normal =>
      obtain ⟨a0, g0, g1, g2, h3, h4⟩ := h'
      exact ⟨(m, a0, g0, g1, g2), h3, Nat.lt_succ_self m, h4⟩
    | _ => exact h'
theorem k_join1_4 {α0 γ0 γ1 γ2 γ3 : Type} {k : (α0 → Option ρ)} {m : (α0 → Option ρ) → Option ρ} (h : jn k m = some r) (I : α0 → γ0 → γ1 → γ2 → γ3 → AF) (S : α0 → γ0 → γ1 → γ2 → γ3 → Items)
    (h1 : ∀ k' : (α0 → Option ρ), m k' = some r → awp P E n x (den P E n (kI (fun af' σ' => ∃ a0 g0 g1 g2 g3, k' a0 = some r ∧ Sub E n af' σ' (I a0 g0 g1 g2 g3) (S a0 g0 g1 g2 g3)) :: ks)) af σ)
    (h2 : ∀ a0 g0 g1 g2 g3, k a0 = some r → awp P E n y (den P E n ks) (I a0 g0 g1 g2 g3) (S a0 g0 g1 g2 g3)) : awp P E n (.seq x y) (den P E n ks) af σ := by
  refine k_seq (fun a w hh => wp_mono (h1 k h a w hh) ?_)
  rintro e a' w' ⟨af', σ', hh', h'⟩
  cases e with
  | normal =>
    obtain ⟨a0, g0, g1, g2, g3, h3, h4⟩ := h'
    exact ⟨_, _, h4 _ _ hh', h2 a0 g0 g1 g2 g3 h3⟩
  | _ => exact ⟨af', σ', hh', h'⟩
theorem k_loop1_4 {α0 γ0 γ1 γ2 γ3 : Type} (L : Nat → (α0 → Option ρ)) (B : (α0 → Option ρ) → (α0 → Option ρ)) (hz : ∀ a0, L 0 a0 = none) (hs : ∀ m, ∀ a0, L (m + 1) a0 = B (L m) a0) {m0 : Nat} {b0 : α0} (h : L m0 b0 = some r)
    (I : α0 → γ0 → γ1 → γ2 → γ3 → AF) (S : α0 → γ0 → γ1 → γ2 → γ3 → Items) (c0 : γ0) (c1 : γ1) (c2 : γ2) (c3 : γ3) (start : Sub E n af σ (I b0 c0 c1 c2 c3) (S b0 c0 c1 c2 c3))
    (round : ∀ rec : (α0 → Option ρ), ∀ a0 g0 g1 g2 g3, B rec a0 = some r → awp P E n x (den P E n (kI (fun af' σ' => ∃ a0 g0 g1 g2 g3, rec a0 = some r ∧ Sub E n af' σ' (I a0 g0 g1 g2 g3) (S a0 g0 g1 g2 g3)) :: ks)) (I a0 g0 g1 g2 g3) (S a0 g0 g1 g2 g3)) : awp P E n (.loop x) (den P E n ks) af σ := by
  refine awp_loop (α := Nat × α0 × γ0 × γ1 × γ2 × γ3) (fun v => I v.2.1 v.2.2.1 v.2.2.2.1 v.2.2.2.2.1 v.2.2.2.2.2) (fun v => S v.2.1 v.2.2.1 v.2.2.2.1 v.2.2.2.2.1 v.2.2.2.2.2) (fun v => L v.1 v.2.1 = some r) (fun v => v.1) (m0, b0, c0, c1, c2, c3) h start (fun v hv => ?_)
  obtain ⟨m, a0, g0, g1, g2, g3⟩ := v
  dsimp only at hv ⊢
  cases m with
  | zero => rw [hz] at hv; cases hv
  | succ m =>
    rw [hs] at hv
    refine awp_mono (round (L m) a0 g0 g1 g2 g3 hv) ?_
    intro e af' σ' h'
    cases e with
    | normal =>
      obtain ⟨a0, g0, g1, g2, g3, h3, h4⟩ := h'
      exact ⟨(m, a0, g0, g1, g2, g3), h3, Nat.lt_succ_self m, h4⟩
    | _ => exact h'
theorem k_join2_0 {α0 α1 : Type} {k : (α0 → α1 → Option ρ)} {m : (α0 → α1 → Option ρ) → Option ρ} (h : jn k m = some r) (I : α0 → α1 → AF) (S : α0 → α1 → Items)
    (h1 : ∀ k' : (α0 → α1 → Option ρ), m k' = some r → awp P E n x (den P E n (kI (fun af' σ' => ∃ a0 a1, k' a0 a1 = some r ∧ Sub E n af' σ' (I a0 a1) (S a0 a1)) :: ks)) af σ)
    (h2 : ∀ a0 a1, k a0 a1 = some r → awp P E n y (den P E n ks) (I a0 a1) (S a0 a1)) : awp P E n (.seq x y) (den P E n ks) af σ := by
  refine k_seq (fun a w hh => wp_mono (h1 k h a w hh) ?_)
  rintro e a' w' ⟨af', σ', hh', h'⟩
  cases e with
  | normal =>
    obtain ⟨a0, a1, h3, h4⟩ := h'
    exact ⟨_, _, h4 _ _ hh', h2 a0 a1 h3⟩
  | _ => exact ⟨af', σ', hh', h'⟩
theorem k_loop2_0 {α0 α1 : Type} (L : Nat → (α0 → α1 → Option ρ)) (B : (α0 → α1 → Option ρ) → (α0 → α1 → Option ρ)) (hz : ∀ a0 a1, L 0 a0 a1 = none) (hs : ∀ m, ∀ a0 a1, L (m + 1) a0 a1 = B (L m) a0 a1) {m0 : Nat} {b0 : α0} {b1 : α1} (h : L m0 b0 b1 = some r)
    (I : α0 → α1 → AF) (S : α0 → α1 → Items) (start : Sub E n af σ (I b0 b1) (S b0 b1))
    (round : ∀ rec : (α0 → α1 → Option ρ), ∀ a0 a1, B rec a0 a1 = some r → awp P E n x (den P E n (kI (fun af' σ' => ∃ a0 a1, rec a0 a1 = some r ∧ Sub E n af' σ' (I a0 a1) (S a0 a1)) :: ks)) (I a0 a1) (S a0 a1)) : awp P E n (.loop x) (den P E n ks) af σ := by
  refine awp_loop (α := Nat × α0 × α1) (fun v => I v.2.1 v.2.2) (fun v => S v.2.1 v.2.2) (fun v => L v.1 v.2.1 v.2.2 = some r) (fun v => v.1) (m0, b0, b1) h start (fun v hv => ?_)
  obtain ⟨m, a0, a1⟩ := v
  dsimp only at hv ⊢
  cases m with
  | zero => rw [hz] at hv; cases hv
  | succ m =>
    rw [hs] at hv
    refine awp_mono (round (L m) a0 a1 hv) ?_
    intro e af' σ' h'
    cases e with
    | normal =>
      obtain ⟨a0, a1, h3, h4⟩ := h'
      exact ⟨(m, a0, a1), h3, Nat.lt_succ_self m, h4⟩
    | _ => exact h'
theorem k_join2_1 {α0 α1 γ0 : Type} {k : (α0 → α1 → Option ρ)} {m : (α0 → α1 → Option ρ) → Option ρ} (h : jn k m = some r) (I : α0 → α1 → γ0 → AF) (S : α0 → α1 → γ0 → Items)
    (h1 : ∀ k' : (α0 → α1 → Option ρ), m k' = some r → awp P E n x (den P E n (kI (fun af' σ' => ∃ a0 a1 g0, k' a0 a1 = some r ∧ Sub E n af' σ' (I a0 a1 g0) (S a0 a1 g0)) :: ks)) af σ)
    (h2 : ∀ a0 a1 g0, k a0 a1 = some r → awp P E n y (den P E n ks) (I a0 a1 g0) (S a0 a1 g0)) : awp P E n (.seq x y) (den P E n ks) af σ := by
  refine k_seq (fun a w hh => wp_mono (h1 k h a w hh) ?_)
  rintro e a' w' ⟨af', σ', hh', h'⟩
  cases e with
  | normal =>
    obtain ⟨a0, a1, g0, h3, h4⟩ := h'
    exact ⟨_, _, h4 _ _ hh', h2 a0 a1 g0 h3⟩
  | _ => exact ⟨af', σ', hh', h'⟩
theorem k_loop2_1 {α0 α1 γ0 : Type} (L : Nat → (α0 → α1 → Option ρ)) (B : (α0 → α1 → Option ρ) → (α0 → α1 → Option ρ)) (hz : ∀ a0 a1, L 0 a0 a1 = none) (hs : ∀ m, ∀ a0 a1, L (m + 1) a0 a1 = B (L m) a0 a1) {m0 : Nat} {b0 : α0} {b1 : α1} (h : L m0 b0 b1 = some r)
    (I : α0 → α1 → γ0 → AF) (S : α0 → α1 → γ0 → Items) (c0 : γ0) (start : Sub E n af σ (I b0 b1 c0) (S b0 b1 c0))
    (round : ∀ rec : (α0 → α1 → Option ρ), ∀ a0 a1 g0, B rec a0 a1 = some r → awp P E n x (den P E n (kI (fun af' σ' => ∃ a0 a1 g0, rec a0 a1 = some r ∧ Sub E n af' σ' (I a0 a1 g0) (S a0 a1 g0)) :: ks)) (I a0 a1 g0) (S a0 a1 g0)) : awp P E n (.loop x) (den P E n ks) af σ := by
  refine awp_loop (α := Nat × α0 × α1 × γ0) (fun v => I v.2.1 v.2.2.1 v.2.2.2) (fun v => S v.2.1 v.2.2.1 v.2.2.2) (fun v => L v.1 v.2.1 v.2.2.1 = some r) (fun v => v.1) (m0, b0, b1, c0) h start (fun v hv => ?_)
  obtain ⟨m, a0, a1, g0⟩ := v
  dsimp only at hv ⊢
  cases m with
  | zero => rw [hz] at hv; cases hv
  | succ m =>
    rw [hs] at hv
    refine awp_mono (round (L m) a0 a1 g0 hv) ?_
    intro e af' σ' h'
    cases e with
    | normal =>
      obtain ⟨a0, a1, g0, h3, h4⟩ := h'
      exact ⟨(m, a0, a1, g0), h3, Nat.lt_succ_self m, h4⟩
    | _ => exact h'
theorem k_join2_2 {α0 α1 γ0 γ1 : Type} {k : (α0 → α1 → Option ρ)} {m : (α0 → α1 → Option ρ) → Option ρ} (h : jn k m = some r) (I : α0 → α1 → γ0 → γ1 → AF) (S : α0 → α1 → γ0 → γ1 → Items)
    (h1 : ∀ k' : (α0 → α1 → Option ρ), m k' = some r → awp P E n x (den P E n (kI (fun af' σ' => ∃ a0 a1 g0 g1, k' a0 a1 = some r ∧ Sub E n af' σ' (I a0 a1 g0 g1) (S a0 a1 g0 g1)) :: ks)) af σ)
    (h2 : ∀ a0 a1 g0 g1, k a0 a1 = some r → awp P E n y (den P E n ks) (I a0 a1 g0 g1) (S a0 a1 g0 g1)) : awp P E n (.seq x y) (den P E n ks) af σ := by
  refine k_seq (fun a w hh => wp_mono (h1 k h a w hh) ?_)
  rintro e a' w' ⟨af', σ', hh', h'⟩
  cases e with
  | normal =>
    obtain ⟨a0, a1, g0, g1, h3, h4⟩ := h'
    exact ⟨_, _, h4 _ _ hh', h2 a0 a1 g0 g1 h3⟩
  | _ => exact ⟨af', σ', hh', h'⟩
theorem k_loop2_2 {α0 α1 γ0 γ1 : Type} (L : Nat → (α0 → α1 → Option ρ)) (B : (α0 → α1 → Option ρ) → (α0 → α1 → Option ρ)) (hz : ∀ a0 a1, L 0 a0 a1 = none) (hs : ∀ m, ∀ a0 a1, L (m + 1) a0 a1 = B (L m) a0 a1) {m0 : Nat} {b0 : α0} {b1 : α1} (h : L m0 b0 b1 = some r)
    (I : α0 → α1 → γ0 → γ1 → AF) (S : α0 → α1 → γ0 → γ1 → Items) (c0 : γ0) (c1 : γ1) (start : Sub E n af σ (I b0 b1 c0 c1) (S b0 b1 c0 c1))
    (round : ∀ rec : (α0 → α1 → Option ρ), ∀ a0 a1 g0 g1, B rec a0 a1 = some r → awp P E n x (den P E n (kI (fun af' σ' => ∃ a0 a1 g0 g1, rec a0 a1 = some r ∧ Sub E n af' σ' (I a0 a1 g0 g1) (S a0 a1 g0 g1)) :: ks)) (I a0 a1 g0 g1) (S a0 a1 g0 g1)) : awp P E n (.loop x) (den P E n ks) af σ := by
  refine awp_loop (α := Nat × α0 × α1 × γ0 × γ1) (fun v => I v.2.1 v.2.2.1 v.2.2.2.1 v.2.2.2.2) (fun v => S v.2.1 v.2.2.1 v.2.2.2.1 v.2.2.2.2) (fun v => L v.1 v.2.1 v.2.2.1 = some r) (fun v => v.1) (m0, b0, b1, c0, c1) h start (fun v hv => ?_)
  obtain ⟨m, a0, a1, g0, g1⟩ := v
  dsimp only at hv ⊢
  cases m with
  | zero => rw [hz] at hv; cases hv
  | succ m =>
    rw [hs] at hv
    refine awp_mono (round (L m) a0 a1 g0 g1 hv) ?_
    intro e af' σ' h'
    cases e with
    | normal =>
      obtain ⟨a0, a1, g0, g1, h3, h4⟩ := h'
      exact ⟨(m, a0, a1, g0, g1), h3, Nat.lt_succ_self m, h4⟩
    | _ => exact h'
theorem k_join2_3 {α0 α1 γ0 γ1 γ2 : Type} {k : (α0 → α1 → Option ρ)} {m : (α0 → α1 → Option ρ) → Option ρ} (h : jn k m = some r) (I : α0 → α1 → γ0 → γ1 → γ2 → AF) (S : α0 → α1 → γ0 → γ1 → γ2 → Items)
    (h1 : ∀ k' : (α0 → α1 → Option ρ), m k' = some r → awp P E n x (den P E n (kI (fun af' σ' => ∃ a0 a1 g0 g1 g2, k' a0 a1 = some r ∧ Sub E n af' σ' (I a0 a1 g0 g1 g2) (S a0 a1 g0 g1 g2)) :: ks)) af σ)
    (h2 : ∀ a0 a1 g0 g1 g2, k a0 a1 = some r → awp P E n y (den P E n ks) (I a0 a1 g0 g1 g2) (S a0 a1 g0 g1 g2)) : awp P E n (.seq x y) (den P E n ks) af σ := by
  refine k_seq (fun a w hh => wp_mono (h1 k h a w hh) ?_)
  rintro e a' w' ⟨af', σ', hh', h'⟩
  cases e with
  | normal =>
    obtain ⟨a0, a1, g0, g1, g2, h3, h4⟩ := h'
    exact ⟨_, _, h4 _ _ hh', h2 a0 a1 g0 g1 g2 h3⟩
  | _ => exact ⟨af', σ', hh', h'⟩
theorem k_loop2_3 {α0 α1 γ0 γ1 γ2 : Type} (L : Nat → (α0 → α1 → Option ρ)) (B : (α0 → α1 → Option ρ) → (α0 → α1 → Option ρ)) (hz : ∀ a0 a1, L 0 a0 a1 = none) (hs : ∀ m, ∀ a0 a1, L (m + 1) a0 a1 = B (L m) a0 a1) {m0 : Nat} {b0 : α0} {b1 : α1} (h : L m0 b0 b1 = some r)
    (I : α0 → α1 → γ0 → γ1 → γ2 → AF) (S : α0 → α1 → γ0 → γ1 → γ2 → Items) (c0 : γ0) (c1 : γ1) (c2 : γ2) (start : Sub E n af σ (I b0 b1 c0 c1 c2) (S b0 b1 c0 c1 c2))
    (round : ∀ rec : (α0 → α1 → Option ρ), ∀ a0 a1 g0 g1 g2, B rec a0 a1 = some r → awp P E n x (den P E n (kI (fun af' σ' => ∃ a0 a1 g0 g1 g2, rec a0 a1 = some r ∧ Sub E n af' σ' (I a0 a1 g0 g1 g2) (S a0 a1 g0 g1 g2)) :: ks)) (I a0 a1 g0 g1 g2) (S a0 a1 g0 g1 g2)) : awp P E n (.loop x) (den P E n ks) af σ := by
  refine awp_loop (α := Nat × α0 × α1 × γ0 × γ1 × γ2) (fun v => I v.2.1 v.2.2.1 v.2.2.2.1 v.2.2.2.2.1 v.2.2.2.2.2) (fun v => S v.2.1 v.2.2.1 v.2.2.2.1 v.2.2.2.2.1 v.2.2.2.2.2) (fun v => L v.1 v.2.1 v.2.2.1 = some r) (fun v => v.1) (m0, b0, b1, c0, c1, c2) h start (fun v hv => ?_)
  obtain ⟨m, a0, a1, g0, g1, g2⟩ := v
  dsimp only at hv ⊢
  cases m with
  | zero => rw [hz] at hv; cases hv
  | succ m =>
    rw [hs] at hv
    refine awp_mono (round (L m) a0 a1 g0 g1 g2 hv) ?_
    intro e af' σ' h'
    cases e with
    | normal =>
      obtain ⟨a0, a1, g0, g1, g2, h3, h4⟩ := h'
      exact ⟨(m, a0, a1, g0, g1, g2), h3, Nat.lt_succ_self m, h4⟩
    | _ => exact h'
theorem k_join2_4 {α0 α1 γ0 γ1 γ2 γ3 : Type} {k : (α0 → α1 → Option ρ)} {m : (α0 → α1 → Option ρ) → Option ρ} (h : jn k m = some r) (I : α0 → α1 → γ0 → γ1 → γ2 → γ3 → AF) (S : α0 → α1 → γ0 → γ1 → γ2 → γ3 → Items)
    (h1 : ∀ k' : (α0 → α1 → Option ρ), m k' = some r → awp P E n x (den P E n (kI (fun af' σ' => ∃ a0 a1 g0 g1 g2 g3, k' a0 a1 = some r ∧ Sub E n af' σ' (I a0 a1 g0 g1 g2 g3) (S a0 a1 g0 g1 g2 g3)) :: ks)) af σ)
    (h2 : ∀ a0 a1 g0 g1 g2 g3, k a0 a1 = some r → awp P E n y (den P E n ks) (I a0 a1 g0 g1 g2 g3) (S a0 a1 g0 g1 g2 g3)) : awp P E n (.seq x y) (den P E n ks) af σ := by
  refine k_seq (fun a w hh => wp_mono (h1 k h a w hh) ?_)
  rintro e a' w' ⟨af', σ', hh', h'⟩
  cases e with
  | normal =>
    obtain ⟨a0, a1, g0, g1, g2, g3, h3, h4⟩ := h'
    exact ⟨_, _, h4 _ _ hh', h2 a0 a1 g0 g1 g2 g3 h3⟩
  | _ => exact ⟨af', σ', hh', h'⟩
theorem k_loop2_4 {α0 α1 γ0 γ1 γ2 γ3 : Type} (L : Nat → (α0 → α1 → Option ρ)) (B : (α0 → α1 → Option ρ) → (α0 → α1 → Option ρ)) (hz : ∀ a0 a1, L 0 a0 a1 = none) (hs : ∀ m, ∀ a0 a1, L (m + 1) a0 a1 = B (L m) a0 a1) {m0 : Nat} {b0 : α0} {b1 : α1} (h : L m0 b0 b1 = some r)
    (I : α0 → α1 → γ0 → γ1 → γ2 → γ3 → AF) (S : α0 → α1 → γ0 → γ1 → γ2 → γ3 → Items) (c0 : γ0) (c1 : γ1) (c2 : γ2) (c3 : γ3) (start : Sub E n af σ (I b0 b1 c0 c1 c2 c3) (S b0 b1 c0 c1 c2 c3))
    (round : ∀ rec : (α0 → α1 → Option ρ), ∀ a0 a1 g0 g1 g2 g3, B rec a0 a1 = some r → awp P E n x (den P E n (kI (fun af' σ' => ∃ a0 a1 g0 g1 g2 g3, rec a0 a1 = some r ∧ Sub E n af' σ' (I a0 a1 g0 g1 g2 g3) (S a0 a1 g0 g1 g2 g3)) :: ks)) (I a0 a1 g0 g1 g2 g3) (S a0 a1 g0 g1 g2 g3)) : awp P E n (.loop x) (den P E n ks) af σ := by
  refine awp_loop (α := Nat × α0 × α1 × γ0 × γ1 × γ2 × γ3) (fun v => I v.2.1 v.2.2.1 v.2.2.2.1 v.2.2.2.2.1 v.2.2.2.2.2.1 v.2.2.2.2.2.2) (fun v => S v.2.1 v.2.2.1 v.2.2.2.1 v.2.2.2.2.1 v.2.2.2.2.2.1 v.2.2.2.2.2.2) (fun v => L v.1 v.2.1 v.2.2.1 = some r) (fun v => v.1) (m0, b0, b1, c0, c1, c2, c3) h start (fun v hv => ?_)
  obtain ⟨m, a0, a1, g0, g1, g2, g3⟩ := v
  dsimp only at hv ⊢
  cases m with
  | zero => rw [hz] at hv; cases hv
  | succ m =>
    rw [hs] at hv
    refine awp_mono (round (L m) a0 a1 g0 g1 g2 g3 hv) ?_
    intro e af' σ' h'
    cases e with
    | normal =>
      obtain ⟨a0, a1, g0, g1, g2, g3, h3, h4⟩ := h'
      exact ⟨(m, a0, a1, g0, g1, g2, g3), h3, Nat.lt_succ_self m, h4⟩
    | _ => exact h'
theorem k_join3_0 {α0 α1 α2 : Type} {k : (α0 → α1 → α2 → Option ρ)} {m : (α0 → α1 → α2 → Option ρ) → Option ρ} (h : jn k m = some r) (I : α0 → α1 → α2 → AF) (S : α0 → α1 → α2 → Items)
    (h1 : ∀ k' : (α0 → α1 → α2 → Option ρ), m k' = some r → awp P E n x (den P E n (kI (fun af' σ' => ∃ a0 a1 a2, k' a0 a1 a2 = some r ∧ Sub E n af' σ' (I a0 a1 a2) (S a0 a1 a2)) :: ks)) af σ)
    (h2 : ∀ a0 a1 a2, k a0 a1 a2 = some r → awp P E n y (den P E n ks) (I a0 a1 a2) (S a0 a1 a2)) : awp P E n (.seq x y) (den P E n ks) af σ := by
  refine k_seq (fun a w hh => wp_mono (h1 k h a w hh) ?_)
  rintro e a' w' ⟨af', σ', hh', h'⟩
  cases e with
  | normal =>
    obtain ⟨a0, a1, a2, h3, h4⟩ := h'
    exact ⟨_, _, h4 _ _ hh', h2 a0 a1 a2 h3⟩
  | _ => exact ⟨af', σ', hh', h'⟩
theorem k_loop3_0 {α0 α1 α2 : Type} (L : Nat → (α0 → α1 → α2 → Option ρ)) (B : (α0 → α1 → α2 → Option ρ) → (α0 → α1 → α2 → Option ρ)) (hz : ∀ a0 a1 a2, L 0 a0 a1 a2 = none) (hs : ∀ m, ∀ a0 a1 a2, L (m + 1) a0 a1 a2 = B (L m) a0 a1 a2) {m0 : Nat} {b0 : α0} {b1 : α1} {b2 : α2} (h : L m0 b0 b1 b2 = some r)
    (I : α0 → α1 → α2 → AF) (S : α0 → α1 → α2 → Items) (start : Sub E n af σ (I b0 b1 b2) (S b0 b1 b2))
    (round : ∀ rec : (α0 → α1 → α2 → Option ρ), ∀ a0 a1 a2, B rec a0 a1 a2 = some r → awp P E n x (den P E n (kI (fun af' σ' => ∃ a0 a1 a2, rec a0 a1 a2 = some r ∧ Sub E n af' σ' (I a0 a1 a2) (S a0 a1 a2)) :: ks)) (I a0 a1 a2) (S a0 a1 a2)) : awp P E n (.loop x) (den P E n ks) af σ := by
  refine awp_loop (α := Nat × α0 × α1 × α2) (fun v => I v.2.1 v.2.2.1 v.2.2.2) (fun v => S v.2.1 v.2.2.1 v.2.2.2) (fun v => L v.1 v.2.1 v.2.2.1 v.2.2.2 = some r) (fun v => v.1) (m0, b0, b1, b2) h start (fun v hv => ?_)
  obtain ⟨m, a0, a1, a2⟩ := v
  dsimp only at hv ⊢
  cases m with
  | zero => rw [hz] at hv; cases hv
  | succ m =>
    rw [hs] at hv
    refine awp_mono (round (L m) a0 a1 a2 hv) ?_
    intro e af' σ' h'
    cases e with
    | normal =>
      obtain ⟨a0, a1, a2, h3, h4⟩ := h'
      exact ⟨(m, a0, a1, a2), h3, Nat.lt_succ_self m, h4⟩
    | _ => exact h'
theorem k_join3_1 {α0 α1 α2 γ0 : Type} {k : (α0 → α1 → α2 → Option ρ)} {m : (α0 → α1 → α2 → Option ρ) → Option ρ} (h : jn k m = some r) (I : α0 → α1 → α2 → γ0 → AF) (S : α0 → α1 → α2 → γ0 → Items)
    (h1 : ∀ k' : (α0 → α1 → α2 → Option ρ), m k' = some r → awp P E n x (den P E n (kI (fun af' σ' => ∃ a0 a1 a2 g0, k' a0 a1 a2 = some r ∧ Sub E n af' σ' (I a0 a1 a2 g0) (S a0 a1 a2 g0)) :: ks)) af σ)
    (h2 : ∀ a0 a1 a2 g0, k a0 a1 a2 = some r → awp P E n y (den P E n ks) (I a0 a1 a2 g0) (S a0 a1 a2 g0)) : awp P E n (.seq x y) (den P E n ks) af σ := by
  refine k_seq (fun a w hh => wp_mono (h1 k h a w hh) ?_)
  rintro e a' w' ⟨af', σ', hh', h'⟩
  cases e with
  | normal =>
    obtain ⟨a0, a1, a2, g0, h3, h4⟩ := h'
    exact ⟨_, _, h4 _ _ hh', h2 a0 a1 a2 g0 h3⟩
  | _ => exact ⟨af', σ', hh', h'⟩
theorem k_loop3_1 {α0 α1 α2 γ0 : Type} (L : Nat → (α0 → α1 → α2 → Option ρ)) (B : (α0 → α1 → α2 → Option ρ) → (α0 → α1 → α2 → Option ρ)) (hz : ∀ a0 a1 a2, L 0 a0 a1 a2 = none) (hs : ∀ m, ∀ a0 a1 a2, L (m + 1) a0 a1 a2 = B (L m) a0 a1 a2) {m0 : Nat} {b0 : α0} {b1 : α1} {b2 : α2} (h : L m0 b0 b1 b2 = some r)
    (I : α0 → α1 → α2 → γ0 → AF) (S : α0 → α1 → α2 → γ0 → Items) (c0 : γ0) (start : Sub E n af σ (I b0 b1 b2 c0) (S b0 b1 b2 c0))
    (round : ∀ rec : (α0 → α1 → α2 → Option ρ), ∀ a0 a1 a2 g0, B rec a0 a1 a2 = some r → awp P E n x (den P E n (kI (fun af' σ' => ∃ a0 a1 a2 g0, rec a0 a1 a2 = some r ∧ Sub E n af' σ' (I a0 a1 a2 g0) (S a0 a1 a2 g0)) :: ks)) (I a0 a1 a2 g0) (S a0 a1 a2 g0)) : awp P E n (.loop x) (den P E n ks) af σ := by
  refine awp_loop (α := Nat × α0 × α1 × α2 × γ0) (fun v => I v.2.1 v.2.2.1 v.2.2.2.1 v.2.2.2.2) (fun v => S v.2.1 v.2.2.1 v.2.2.2.1 v.2.2.2.2) (fun v => L v.1 v.2.1 v.2.2.1 v.2.2.2.1 = some r) (fun v => v.1) (m0, b0, b1, b2, c0) h start (fun v hv => ?_)
  obtain ⟨m, a0, a1, a2, g0⟩ := v
  dsimp only at hv ⊢
  cases m with
  | zero => rw [hz] at hv; cases hv
  | succ m =>
    rw [hs] at hv
    refine awp_mono (round (L m) a0 a1 a2 g0 hv) ?_
    intro e af' σ' h'
    cases e with
    | normal =>
      obtain ⟨a0, a1, a2, g0, h3, h4⟩ := h'
      exact ⟨(m, a0, a1, a2, g0), h3, Nat.lt_succ_self m, h4⟩
    | _ => exact h'
theorem k_join3_2 {α0 α1 α2 γ0 γ1 : Type} {k : (α0 → α1 → α2 → Option ρ)} {m : (α0 → α1 → α2 → Option ρ) → Option ρ} (h : jn k m = some r) (I : α0 → α1 → α2 → γ0 → γ1 → AF) (S : α0 → α1 → α2 → γ0 → γ1 → Items)
    (h1 : ∀ k' : (α0 → α1 → α2 → Option ρ), m k' = some r → awp P E n x (den P E n (kI (fun af' σ' => ∃ a0 a1 a2 g0 g1, k' a0 a1 a2 = some r ∧ Sub E n af' σ' (I a0 a1 a2 g0 g1) (S a0 a1 a2 g0 g1)) :: ks)) af σ)
    (h2 : ∀ a0 a1 a2 g0 g1, k a0 a1 a2 = some r → awp P E n y (den P E n ks) (I a0 a1 a2 g0 g1) (S a0 a1 a2 g0 g1)) : awp P E n (.seq x y) (den P E n ks) af σ := by
  refine k_seq (fun a w hh => wp_mono (h1 k h a w hh) ?_)
  rintro e a' w' ⟨af', σ', hh', h'⟩
  cases e with
  | normal =>
    obtain ⟨a0, a1, a2, g0, g1, h3, h4⟩ := h'
    exact ⟨_, _, h4 _ _ hh', h2 a0 a1 a2 g0 g1 h3⟩
  | _ => exact ⟨af', σ', hh', h'⟩
theorem k_loop3_2 {α0 α1 α2 γ0 γ1 : Type} (L : Nat → (α0 → α1 → α2 → Option ρ)) (B : (α0 → α1 → α2 → Option ρ) → (α0 → α1 → α2 → Option ρ)) (hz : ∀ a0 a1 a2, L 0 a0 a1 a2 = none) (hs : ∀ m, ∀ a0 a1 a2, L (m + 1) a0 a1 a2 = B (L m) a0 a1 a2) {m0 : Nat} {b0 : α0} {b1 : α1} {b2 : α2} (h : L m0 b0 b1 b2 = some r)
    (I : α0 → α1 → α2 → γ0 → γ1 → AF) (S : α0 → α1 → α2 → γ0 → γ1 → Items) (c0 : γ0) (c1 : γ1) (start : Sub E n af σ (I b0 b1 b2 c0 c1) (S b0 b1 b2 c0 c1))
    (round : ∀ rec : (α0 → α1 → α2 → Option ρ), ∀ a0 a1 a2 g0 g1, B rec a0 a1 a2 = some r → awp P E n x (den P E n (kI (fun af' σ' => ∃ a0 a1 a2 g0 g1, rec a0 a1 a2 = some r ∧ Sub E n af' σ' (I a0 a1 a2 g0 g1) (S a0 a1 a2 g0 g1)) :: ks)) (I a0 a1 a2 g0 g1) (S a0 a1 a2 g0 g1)) : awp P E n (.loop x) (den P E n ks) af σ := by
  refine awp_loop (α := Nat × α0 × α1 × α2 × γ0 × γ1) (fun v => I v.2.1 v.2.2.1 v.2.2.2.1 v.2.2.2.2.1 v.2.2.2.2.2) (fun v => S v.2.1 v.2.2.1 v.2.2.2.1 v.2.2.2.2.1 v.2.2.2.2.2) (fun v => L v.1 v.2.1 v.2.2.1 v.2.2.2.1 = some r) (fun v => v.1) (m0, b0, b1, b2, c0, c1) h start (fun v hv => ?_)
  obtain ⟨m, a0, a1, a2, g0, g1⟩ := v
  dsimp only at hv ⊢
  cases m with
  | zero => rw [hz] at hv; cases hv
  | succ m =>
    rw [hs] at hv
    refine awp_mono (round (L m) a0 a1 a2 g0 g1 hv) ?_
    intro e af' σ' h'
    cases e with
    | normal =>
      obtain ⟨a0, a1, a2, g0, g1, h3, h4⟩ := h'
      exact ⟨(m, a0, a1, a2, g0, g1), h3, Nat.lt_succ_self m, h4⟩
    | _ => exact h'
theorem k_join3_3 {α0 α1 α2 γ0 γ1 γ2 : Type} {k : (α0 → α1 → α2 → Option ρ)} {m : (α0 → α1 → α2 → Option ρ) → Option ρ} (h : jn k m = some r) (I : α0 → α1 → α2 → γ0 → γ1 → γ2 → AF) (S : α0 → α1 → α2 → γ0 → γ1 → γ2 → Items)
    (h1 : ∀ k' : (α0 → α1 → α2 → Option ρ), m k' = some r → awp P E n x (den P E n (kI (fun af' σ' => ∃ a0 a1 a2 g0 g1 g2, k' a0 a1 a2 = some r ∧ Sub E n af' σ' (I a0 a1 a2 g0 g1 g2) (S a0 a1 a2 g0 g1 g2)) :: ks)) af σ)
    (h2 : ∀ a0 a1 a2 g0 g1 g2, k a0 a1 a2 = some r → awp P E n y (den P E n ks) (I a0 a1 a2 g0 g1 g2) (S a0 a1 a2 g0 g1 g2)) : awp P E n (.seq x y) (den P E n ks) af σ := by
  refine k_seq (fun a w hh => wp_mono (h1 k h a w hh) ?_)
  rintro e a' w' ⟨af', σ', hh', h'⟩
  cases e with
  | normal =>
    obtain ⟨a0, a1, a2, g0, g1, g2, h3, h4⟩ := h'
    exact ⟨_, _, h4 _ _ hh', h2 a0 a1 a2 g0 g1 g2 h3⟩
  | _ => exact ⟨af', σ', hh', h'⟩
theorem k_loop3_3 {α0 α1 α2 γ0 γ1 γ2 : Type} (L : Nat → (α0 → α1 → α2 → Option ρ)) (B : (α0 → α1 → α2 → Option ρ) → (α0 → α1 → α2 → Option ρ)) (hz : ∀ a0 a1 a2, L 0 a0 a1 a2 = none) (hs : ∀ m, ∀ a0 a1 a2, L (m + 1) a0 a1 a2 = B (L m) a0 a1 a2) {m0 : Nat} {b0 : α0} {b1 : α1} {b2 : α2} (h : L m0 b0 b1 b2 = some r)
    (I : α0 → α1 → α2 → γ0 → γ1 → γ2 → AF) (S : α0 → α1 → α2 → γ0 → γ1 → γ2 → Items) (c0 : γ0) (c1 : γ1) (c2 : γ2) (start : Sub E n af σ (I b0 b1 b2 c0 c1 c2) (S b0 b1 b2 c0 c1 c2))
    (round : ∀ rec : (α0 → α1 → α2 → Option ρ), ∀ a0 a1 a2 g0 g1 g2, B rec a0 a1 a2 = some r → awp P E n x (den P E n (kI (fun af' σ' => ∃ a0 a1 a2 g0 g1 g2, rec a0 a1 a2 = some r ∧ Sub E n af' σ' (I a0 a1 a2 g0 g1 g2) (S a0 a1 a2 g0 g1 g2)) :: ks)) (I a0 a1 a2 g0 g1 g2) (S a0 a1 a2 g0 g1 g2)) : awp P E n (.loop x) (den P E n ks) af σ := by
  refine awp_loop (α := Nat × α0 × α1 × α2 × γ0 × γ1 × γ2) (fun v => I v.2.1 v.2.2.1 v.2.2.2.1 v.2.2.2.2.1 v.2.2.2.2.2.1 v.2.2.2.2.2.2) (fun v => S v.2.1 v.2.2.1 v.2.2.2.1 v.2.2.2.2.1 v.2.2.2.2.2.1 v.2.2.2.2.2.2) (fun v => L v.1 v.2.1 v.2.2.1 v.2.2.2.1 = some r) (fun v => v.1) (m0, b0, b1, b2, c0, c1, c2) h start (fun v hv => ?_)
  obtain ⟨m, a0, a1, a2, g0, g1, g2⟩ := v
  dsimp only at hv ⊢
  cases m with
  | zero => rw [hz] at hv; cases hv
  | succ m =>
    rw [hs] at hv
    refine awp_mono (round (L m) a0 a1 a2 g0 g1 g2 hv) ?_
    intro e af' σ' h'
    cases e with
    | normal =>
      obtain ⟨a0, a1, a2, g0, g1, g2, h3, h4⟩ := h'
      exact ⟨(m, a0, a1, a2, g0, g1, g2), h3, Nat.lt_succ_self m, h4⟩
    | _ => exact h'
theorem k_join3_4 {α0 α1 α2 γ0 γ1 γ2 γ3 : Type} {k : (α0 → α1 → α2 → Option ρ)} {m : (α0 → α1 → α2 → Option ρ) → Option ρ} (h : jn k m = some r) (I : α0 → α1 → α2 → γ0 → γ1 → γ2 → γ3 → AF) (S : α0 → α1 → α2 → γ0 → γ1 → γ2 → γ3 → Items)
    (h1 : ∀ k' : (α0 → α1 → α2 → Option ρ), m k' = some r → awp P E n x (den P E n (kI (fun af' σ' => ∃ a0 a1 a2 g0 g1 g2 g3, k' a0 a1 a2 = some r ∧ Sub E n af' σ' (I a0 a1 a2 g0 g1 g2 g3) (S a0 a1 a2 g0 g1 g2 g3)) :: ks)) af σ)
    (h2 : ∀ a0 a1 a2 g0 g1 g2 g3, k a0 a1 a2 = some r → awp P E n y (den P E n ks) (I a0 a1 a2 g0 g1 g2 g3) (S a0 a1 a2 g0 g1 g2 g3)) : awp P E n (.seq x y) (den P E n ks) af σ := by
  refine k_seq (fun a w hh => wp_mono (h1 k h a w hh) ?_)
  rintro e a' w' ⟨af', σ', hh', h'⟩
  cases e with
  | normal =>
    obtain ⟨a0, a1, a2, g0, g1, g2, g3, h3, h4⟩ := h'
    exact ⟨_, _, h4 _ _ hh', h2 a0 a1 a2 g0 g1 g2 g3 h3⟩
  | _ => exact ⟨af', σ', hh', h'⟩
theorem k_loop3_4 {α0 α1 α2 γ0 γ1 γ2 γ3 : Type} (L : Nat → (α0 → α1 → α2 → Option ρ)) (B : (α0 → α1 → α2 → Option ρ) → (α0 → α1 → α2 → Option ρ)) (hz : ∀ a0 a1 a2, L 0 a0 a1 a2 = none) (hs : ∀ m, ∀ a0 a1 a2, L (m + 1) a0 a1 a2 = B (L m) a0 a1 a2) {m0 : Nat} {b0 : α0} {b1 : α1} {b2 : α2} (h : L m0 b0 b1 b2 = some r)
    (I : α0 → α1 → α2 → γ0 → γ1 → γ2 → γ3 → AF) (S : α0 → α1 → α2 → γ0 → γ1 → γ2 → γ3 → Items) (c0 : γ0) (c1 : γ1) (c2 : γ2) (c3 : γ3) (start : Sub E n af σ (I b0 b1 b2 c0 c1 c2 c3) (S b0 b1 b2 c0 c1 c2 c3))
    (round : ∀ rec : (α0 → α1 → α2 → Option ρ), ∀ a0 a1 a2 g0 g1 g2 g3, B rec a0 a1 a2 = some r → awp P E n x (den P E n (kI (fun af' σ' => ∃ a0 a1 a2 g0 g1 g2 g3, rec a0 a1 a2 = some r ∧ Sub E n af' σ' (I a0 a1 a2 g0 g1 g2 g3) (S a0 a1 a2 g0 g1 g2 g3)) :: ks)) (I a0 a1 a2 g0 g1 g2 g3) (S a0 a1 a2 g0 g1 g2 g3)) : awp P E n (.loop x) (den P E n ks) af σ := by
  refine awp_loop (α := Nat × α0 × α1 × α2 × γ0 × γ1 × γ2 × γ3) (fun v => I v.2.1 v.2.2.1 v.2.2.2.1 v.2.2.2.2.1 v.2.2.2.2.2.1 v.2.2.2.2.2.2.1 v.2.2.2.2.2.2.2) (fun v => S v.2.1 v.2.2.1 v.2.2.2.1 v.2.2.2.2.1 v.2.2.2.2.2.1 v.2.2.2.2.2.2.1 v.2.2.2.2.2.2.2) (fun v => L v.1 v.2.1 v.2.2.1 v.2.2.2.1 = some r) (fun v => v.1) (m0, b0, b1, b2, c0, c1, c2, c3) h start (fun v hv => ?_)
  obtain ⟨m, a0, a1, a2, g0, g1, g2, g3⟩ := v
  dsimp only at hv ⊢
  cases m with
  | zero => rw [hz] at hv; cases hv
  | succ m =>
    rw [hs] at hv
    refine awp_mono (round (L m) a0 a1 a2 g0 g1 g2 g3 hv) ?_
    intro e af' σ' h'
    cases e with
    | normal =>
      obtain ⟨a0, a1, a2, g0, g1, g2, g3, h3, h4⟩ := h'
      exact ⟨(m, a0, a1, a2, g0, g1, g2, g3), h3, Nat.lt_succ_self m, h4⟩
    | _ => exact h'
theorem k_join4_0 {α0 α1 α2 α3 : Type} {k : (α0 → α1 → α2 → α3 → Option ρ)} {m : (α0 → α1 → α2 → α3 → Option ρ) → Option ρ} (h : jn k m = some r) (I : α0 → α1 → α2 → α3 → AF) (S : α0 → α1 → α2 → α3 → Items)
    (h1 : ∀ k' : (α0 → α1 → α2 → α3 → Option ρ), m k' = some r → awp P E n x (den P E n (kI (fun af' σ' => ∃ a0 a1 a2 a3, k' a0 a1 a2 a3 = some r ∧ Sub E n af' σ' (I a0 a1 a2 a3) (S a0 a1 a2 a3)) :: ks)) af σ)
    (h2 : ∀ a0 a1 a2 a3, k a0 a1 a2 a3 = some r → awp P E n y (den P E n ks) (I a0 a1 a2 a3) (S a0 a1 a2 a3)) : awp P E n (.seq x y) (den P E n ks) af σ := by
  refine k_seq (fun a w hh => wp_mono (h1 k h a w hh) ?_)
  rintro e a' w' ⟨af', σ', hh', h'⟩
  cases e with
  | normal =>
    obtain ⟨a0, a1, a2, a3, h3, h4⟩ := h'
    exact ⟨_, _, h4 _ _ hh', h2 a0 a1 a2 a3 h3⟩
  | _ => exact ⟨af', σ', hh', h'⟩
theorem k_loop4_0 {α0 α1 α2 α3 : Type} (L : Nat → (α0 → α1 → α2 → α3 → Option ρ)) (B : (α0 → α1 → α2 → α3 → Option ρ) → (α0 → α1 → α2 → α3 → Option ρ)) (hz : ∀ a0 a1 a2 a3, L 0 a0 a1 a2 a3 = none) (hs : ∀ m, ∀ a0 a1 a2 a3, L (m + 1) a0 a1 a2 a3 = B (L m) a0 a1 a2 a3) {m0 : Nat} {b0 : α0} {b1 : α1} {b2 : α2} {b3 : α3} (h : L m0 b0 b1 b2 b3 = some r)
    (I : α0 → α1 → α2 → α3 → AF) (S : α0 → α1 → α2 → α3 → Items) (start : Sub E n af σ (I b0 b1 b2 b3) (S b0 b1 b2 b3))
    (round : ∀ rec : (α0 → α1 → α2 → α3 → Option ρ), ∀ a0 a1 a2 a3, B rec a0 a1 a2 a3 = some r → awp P E n x (den P E n (kI (fun af' σ' => ∃ a0 a1 a2 a3, rec a0 a1 a2 a3 = some r ∧ Sub E n af' σ' (I a0 a1 a2 a3) (S a0 a1 a2 a3)) :: ks)) (I a0 a1 a2 a3) (S a0 a1 a2 a3)) : awp P E n (.loop x) (den P E n ks) af σ := by
  refine awp_loop (α := Nat × α0 × α1 × α2 × α3) (fun v => I v.2.1 v.2.2.1 v.2.2.2.1 v.2.2.2.2) (fun v => S v.2.1 v.2.2.1 v.2.2.2.1 v.2.2.2.2) (fun v => L v.1 v.2.1 v.2.2.1 v.2.2.2.1 v.2.2.2.2 = some r) (fun v => v.1) (m0, b0, b1, b2, b3) h start (fun v hv => ?_)
  obtain ⟨m, a0, a1, a2, a3⟩ := v
  dsimp only at hv ⊢
  cases m with
  | zero => rw [hz] at hv; cases hv
  | succ m =>
    rw [hs] at hv
    refine awp_mono (round (L m) a0 a1 a2 a3 hv) ?_
    intro e af' σ' h'
    cases e with
    | normal =>
      obtain ⟨a0, a1, a2, a3, h3, h4⟩ := h'
      exact ⟨(m, a0, a1, a2, a3), h3, Nat.lt_succ_self m, h4⟩
    | _ => exact h'
theorem k_join4_1 {α0 α1 α2 α3 γ0 : Type} {k : (α0 → α1 → α2 → α3 → Option ρ)} {m : (α0 → α1 → α2 → α3 → Option ρ) → Option ρ} (h : jn k m = some r) (I : α0 → α1 → α2 → α3 → γ0 → AF) (S : α0 → α1 → α2 → α3 → γ0 → Items)
    (h1 : ∀ k' : (α0 → α1 → α2 → α3 → Option ρ), m k' = some r → awp P E n x (den P E n (kI (fun af' σ' => ∃ a0 a1 a2 a3 g0, k' a0 a1 a2 a3 = some r ∧ Sub E n af' σ' (I a0 a1 a2 a3 g0) (S a0 a1 a2 a3 g0)) :: ks)) af σ)
    (h2 : ∀ a0 a1 a2 a3 g0, k a0 a1 a2 a3 = some r → awp P E n y (den P E n ks) (I a0 a1 a2 a3 g0) (S a0 a1 a2 a3 g0)) : awp P E n (.seq x y) (den P E n ks) af σ := by
  refine k_seq (fun a w hh => wp_mono (h1 k h a w hh) ?_)
  rintro e a' w' ⟨af', σ', hh', h'⟩
  cases e with
  | normal =>
    obtain ⟨a0, a1, a2, a3, g0, h3, h4⟩ := h'
    exact ⟨_, _, h4 _ _ hh', h2 a0 a1 a2 a3 g0 h3⟩
  | _ => exact ⟨af', σ', hh', h'⟩
theorem k_loop4_1 {α0 α1 α2 α3 γ0 : Type} (L : Nat → (α0 → α1 → α2 → α3 → Option ρ)) (B : (α0 → α1 → α2 → α3 → Option ρ) → (α0 → α1 → α2 → α3 → Option ρ)) (hz : ∀ a0 a1 a2 a3, L 0 a0 a1 a2 a3 = none) (hs : ∀ m, ∀ a0 a1 a2 a3, L (m + 1) a0 a1 a2 a3 = B (L m) a0 a1 a2 a3) {m0 : Nat} {b0 : α0} {b1 : α1} {b2 : α2} {b3 : α3} (h : L m0 b0 b1 b2 b3 = some r)
    (I : α0 → α1 → α2 → α3 → γ0 → AF) (S : α0 → α1 → α2 → α3 → γ0 → Items) (c0 : γ0) (start : Sub E n af σ (I b0 b1 b2 b3 c0) (S b0 b1 b2 b3 c0))
    (round : ∀ rec : (α0 → α1 → α2 → α3 → Option ρ), ∀ a0 a1 a2 a3 g0, B rec a0 a1 a2 a3 = some r → awp P E n x (den P E n (kI (fun af' σ' => ∃ a0 a1 a2 a3 g0, rec a0 a1 a2 a3 = some r ∧ Sub E n af' σ' (I a0 a1 a2 a3 g0) (S a0 a1 a2 a3 g0)) :: ks)) (I a0 a1 a2 a3 g0) (S a0 a1 a2 a3 g0)) : awp P E n (.loop x) (den P E n ks) af σ := by
  refine awp_loop (α := Nat × α0 × α1 × α2 × α3 × γ0) (fun v => I v.2.1 v.2.2.1 v.2.2.2.1 v.2.2.2.2.1 v.2.2.2.2.2) (fun v => S v.2.1 v.2.2.1 v.2.2.2.1 v.2.2.2.2.1 v.2.2.2.2.2) (fun v => L v.1 v.2.1 v.2.2.1 v.2.2.2.1 v.2.2.2.2.1 = some r) (fun v => v.1) (m0, b0, b1, b2, b3, c0) h start (fun v hv => ?_)
  obtain ⟨m, a0, a1, a2, a3, g0⟩ := v
  dsimp only at hv ⊢
  cases m with
  | zero => rw [hz] at hv; cases hv
  | succ m =>
    rw [hs] at hv
    refine awp_mono (round (L m) a0 a1 a2 a3 g0 hv) ?_
    intro e af' σ' h'
    cases e with
    | normal =>
      obtain ⟨a0, a1, a2, a3, g0, h3, h4⟩ := h'
      exact ⟨(m, a0, a1, a2, a3, g0), h3, Nat.lt_succ_self m, h4⟩
    | _ => exact h'
theorem k_join4_2 {α0 α1 α2 α3 γ0 γ1 : Type} {k : (α0 → α1 → α2 → α3 → Option ρ)} {m : (α0 → α1 → α2 → α3 → Option ρ) → Option ρ} (h : jn k m = some r) (I : α0 → α1 → α2 → α3 → γ0 → γ1 → AF) (S : α0 → α1 → α2 → α3 → γ0 → γ1 → Items)
    (h1 : ∀ k' : (α0 → α1 → α2 → α3 → Option ρ), m k' = some r → awp P E n x (den P E n (kI (fun af' σ' => ∃ a0 a1 a2 a3 g0 g1, k' a0 a1 a2 a3 = some r ∧ Sub E n af' σ' (I a0 a1 a2 a3 g0 g1) (S a0 a1 a2 a3 g0 g1)) :: ks)) af σ)
    (h2 : ∀ a0 a1 a2 a3 g0 g1, k a0 a1 a2 a3 = some r → awp P E n y (den P E n ks) (I a0 a1 a2 a3 g0 g1) (S a0 a1 a2 a3 g0 g1)) : awp P E n (.seq x y) (den P E n ks) af σ := by
  refine k_seq (fun a w hh => wp_mono (h1 k h a w hh) ?_)
  rintro e a' w' ⟨af', σ', hh', h'⟩
  cases e with
  | normal =>
    obtain ⟨a0, a1, a2, a3, g0, g1, h3, h4⟩ := h'
    exact ⟨_, _, h4 _ _ hh', h2 a0 a1 a2 a3 g0 g1 h3⟩
  | _ => exact ⟨af', σ', hh', h'⟩
theorem k_loop4_2 {α0 α1 α2 α3 γ0 γ1 : Type} (L : Nat → (α0 → α1 → α2 → α3 → Option ρ)) (B : (α0 → α1 → α2 → α3 → Option ρ) → (α0 → α1 → α2 → α3 → Option ρ)) (hz : ∀ a0 a1 a2 a3, L 0 a0 a1 a2 a3 = none) (hs : ∀ m, ∀ a0 a1 a2 a3, L (m + 1) a0 a1 a2 a3 = B (L m) a0 a1 a2 a3) {m0 : Nat} {b0 : α0} {b1 : α1} {b2 : α2} {b3 : α3} (h : L m0 b0 b1 b2 b3 = some r)
    (I : α0 → α1 → α2 → α3 → γ0 → γ1 → AF) (S : α0 → α1 → α2 → α3 → γ0 → γ1 → Items) (c0 : γ0) (c1 : γ1) (start : Sub E n af σ (I b0 b1 b2 b3 c0 c1) (S b0 b1 b2 b3 c0 c1))
    (round : ∀ rec : (α0 → α1 → α2 → α3 → Option ρ), ∀ a0 a1 a2 a3 g0 g1, B rec a0 a1 a2 a3 = some r → awp P E n x (den P E n (kI (fun af' σ' => ∃ a0 a1 a2 a3 g0 g1, rec a0 a1 a2 a3 = some r ∧ Sub E n af' σ' (I a0 a1 a2 a3 g0 g1) (S a0 a1 a2 a3 g0 g1)) :: ks)) (I a0 a1 a2 a3 g0 g1) (S a0 a1 a2 a3 g0 g1)) : awp P E n (.loop x) (den P E n ks) af σ := by
  refine awp_loop (α := Nat × α0 × α1 × α2 × α3 × γ0 × γ1) (fun v => I v.2.1 v.2.2.1 v.2.2.2.1 v.2.2.2.2.1 v.2.2.2.2.2.1 v.2.2.2.2.2.2) (fun v => S v.2.1 v.2.2.1 v.2.2.2.1 v.2.2.2.2.1 v.2.2.2.2.2.1 v.2.2.2.2.2.2) (fun v => L v.1 v.2.1 v.2.2.1 v.2.2.2.1 v.2.2.2.2.1 = some r) (fun v => v.1) (m0, b0, b1, b2, b3, c0, c1) h start (fun v hv => ?_)
  obtain ⟨m, a0, a1, a2, a3, g0, g1⟩ := v
  dsimp only at hv ⊢
  cases m with
  | zero => rw [hz] at hv; cases hv
  | succ m =>
    rw [hs] at hv
    refine awp_mono (round (L m) a0 a1 a2 a3 g0 g1 hv) ?_
    intro e af' σ' h'
    cases e with
    | normal =>
      obtain ⟨a0, a1, a2, a3, g0, g1, h3, h4⟩ := h'
      exact ⟨(m, a0, a1, a2, a3, g0, g1), h3, Nat.lt_succ_self m, h4⟩
    | _ => exact h'
theorem k_join4_3 {α0 α1 α2 α3 γ0 γ1 γ2 : Type} {k : (α0 → α1 → α2 → α3 → Option ρ)} {m : (α0 → α1 → α2 → α3 → Option ρ) → Option ρ} (h : jn k m = some r) (I : α0 → α1 → α2 → α3 → γ0 → γ1 → γ2 → AF) (S : α0 → α1 → α2 → α3 → γ0 → γ1 → γ2 → Items)
    (h1 : ∀ k' : (α0 → α1 → α2 → α3 → Option ρ), m k' = some r → awp P E n x (den P E n (kI (fun af' σ' => ∃ a0 a1 a2 a3 g0 g1 g2, k' a0 a1 a2 a3 = some r ∧ Sub E n af' σ' (I a0 a1 a2 a3 g0 g1 g2) (S a0 a1 a2 a3 g0 g1 g2)) :: ks)) af σ)
    (h2 : ∀ a0 a1 a2 a3 g0 g1 g2, k a0 a1 a2 a3 = some r → awp P E n y (den P E n ks) (I a0 a1 a2 a3 g0 g1 g2) (S a0 a1 a2 a3 g0 g1 g2)) : awp P E n (.seq x y) (den P E n ks) af σ := by
  refine k_seq (fun a w hh => wp_mono (h1 k h a w hh) ?_)
  rintro e a' w' ⟨af', σ', hh', h'⟩
  cases e with
  | normal =>
    obtain ⟨a0, a1, a2, a3, g0, g1, g2, h3, h4⟩ := h'
    exact ⟨_, _, h4 _ _ hh', h2 a0 a1 a2 a3 g0 g1 g2 h3⟩
  | _ => exact ⟨af', σ', hh', h'⟩
theorem k_loop4_3 {α0 α1 α2 α3 γ0 γ1 γ2 : Type} (L : Nat → (α0 → α1 → α2 → α3 → Option ρ)) (B : (α0 → α1 → α2 → α3 → Option ρ) → (α0 → α1 → α2 → α3 → Option ρ)) (hz : ∀ a0 a1 a2 a3, L 0 a0 a1 a2 a3 = none) (hs : ∀ m, ∀ a0 a1 a2 a3, L (m + 1) a0 a1 a2 a3 = B (L m) a0 a1 a2 a3) {m0 : Nat} {b0 : α0} {b1 : α1} {b2 : α2} {b3 : α3} (h : L m0 b0 b1 b2 b3 = some r)
    (I : α0 → α1 → α2 → α3 → γ0 → γ1 → γ2 → AF) (S : α0 → α1 → α2 → α3 → γ0 → γ1 → γ2 → Items) (c0 : γ0) (c1 : γ1) (c2 : γ2) (start : Sub E n af σ (I b0 b1 b2 b3 c0 c1 c2) (S b0 b1 b2 b3 c0 c1 c2))
    (round : ∀ rec : (α0 → α1 → α2 → α3 → Option ρ), ∀ a0 a1 a2 a3 g0 g1 g2, B rec a0 a1 a2 a3 = some r → awp P E n x (den P E n (kI (fun af' σ' => ∃ a0 a1 a2 a3 g0 g1 g2, rec a0 a1 a2 a3 = some r ∧ Sub E n af' σ' (I a0 a1 a2 a3 g0 g1 g2) (S a0 a1 a2 a3 g0 g1 g2)) :: ks)) (I a0 a1 a2 a3 g0 g1 g2) (S a0 a1 a2 a3 g0 g1 g2)) : awp P E n (.loop x) (den P E n ks) af σ := by
  refine awp_loop (α := Nat × α0 × α1 × α2 × α3 × γ0 × γ1 × γ2) (fun v => I v.2.1 v.2.2.1 v.2.2.2.1 v.2.2.2.2.1 v.2.2.2.2.2.1 v.2.2.2.2.2.2.1 v.2.2.2.2.2.2.2) (fun v => S v.2.1 v.2.2.1 v.2.2.2.1 v.2.2.2.2.1 v.2.2.2.2.2.1 v.2.2.2.2.2.2.1 v.2.2.2.2.2.2.2) (fun v => L v.1 v.2.1 v.2.2.1 v.2.2.2.1 v.2.2.2.2.1 = some r) (fun v => v.1) (m0, b0, b1, b2, b3, c0, c1, c2) h start (fun v hv => ?_)
  obtain ⟨m, a0, a1, a2, a3, g0, g1, g2⟩ := v
  dsimp only at hv ⊢
  cases m with
  | zero => rw [hz] at hv; cases hv
  | succ m =>
    rw [hs] at hv
    refine awp_mono (round (L m) a0 a1 a2 a3 g0 g1 g2 hv) ?_
    intro e af' σ' h'
    cases e with
    | normal =>
      obtain ⟨a0, a1, a2, a3, g0, g1, g2, h3, h4⟩ := h'
      exact ⟨(m, a0, a1, a2, a3, g0, g1, g2), h3, Nat.lt_succ_self m, h4⟩
    | _ => exact h'
theorem k_join4_4 {α0 α1 α2 α3 γ0 γ1 γ2 γ3 : Type} {k : (α0 → α1 → α2 → α3 → Option ρ)} {m : (α0 → α1 → α2 → α3 → Option ρ) → Option ρ} (h : jn k m = some r) (I : α0 → α1 → α2 → α3 → γ0 → γ1 → γ2 → γ3 → AF) (S : α0 → α1 → α2 → α3 → γ0 → γ1 → γ2 → γ3 → Items)
    (h1 : ∀ k' : (α0 → α1 → α2 → α3 → Option ρ), m k' = some r → awp P E n x (den P E n (kI (fun af' σ' => ∃ a0 a1 a2 a3 g0 g1 g2 g3, k' a0 a1 a2 a3 = some r ∧ Sub E n af' σ' (I a0 a1 a2 a3 g0 g1 g2 g3) (S a0 a1 a2 a3 g0 g1 g2 g3)) :: ks)) af σ)
    (h2 : ∀ a0 a1 a2 a3 g0 g1 g2 g3, k a0 a1 a2 a3 = some r → awp P E n y (den P E n ks) (I a0 a1 a2 a3 g0 g1 g2 g3) (S a0 a1 a2 a3 g0 g1 g2 g3)) : awp P E n (.seq x y) (den P E n ks) af σ := by
  refine k_seq (fun a w hh => wp_mono (h1 k h a w hh) ?_)
  rintro e a' w' ⟨af', σ', hh', h'⟩
  cases e with
  | normal =>
    obtain ⟨a0, a1, a2, a3, g0, g1, g2, g3, h3, h4⟩ := h'
    exact ⟨_, _, h4 _ _ hh', h2 a0 a1 a2 a3 g0 g1 g2 g3 h3⟩
  | _ => exact ⟨af', σ', hh', h'⟩
theorem k_loop4_4 {α0 α1 α2 α3 γ0 γ1 γ2 γ3 : Type} (L : Nat → (α0 → α1 → α2 → α3 → Option ρ)) (B : (α0 → α1 → α2 → α3 → Option ρ) → (α0 → α1 → α2 → α3 → Option ρ)) (hz : ∀ a0 a1 a2 a3, L 0 a0 a1 a2 a3 = none) (hs : ∀ m, ∀ a0 a1 a2 a3, L (m + 1) a0 a1 a2 a3 = B (L m) a0 a1 a2 a3) {m0 : Nat} {b0 : α0} {b1 : α1} {b2 : α2} {b3 : α3} (h : L m0 b0 b1 b2 b3 = some r)
    (I : α0 → α1 → α2 → α3 → γ0 → γ1 → γ2 → γ3 → AF) (S : α0 → α1 → α2 → α3 → γ0 → γ1 → γ2 → γ3 → Items) (c0 : γ0) (c1 : γ1) (c2 : γ2) (c3 : γ3) (start : Sub E n af σ (I b0 b1 b2 b3 c0 c1 c2 c3) (S b0 b1 b2 b3 c0 c1 c2 c3))
    (round : ∀ rec : (α0 → α1 → α2 → α3 → Option ρ), ∀ a0 a1 a2 a3 g0 g1 g2 g3, B rec a0 a1 a2 a3 = some r → awp P E n x (den P E n (kI (fun af' σ' => ∃ a0 a1 a2 a3 g0 g1 g2 g3, rec a0 a1 a2 a3 = some r ∧ Sub E n af' σ' (I a0 a1 a2 a3 g0 g1 g2 g3) (S a0 a1 a2 a3 g0 g1 g2 g3)) :: ks)) (I a0 a1 a2 a3 g0 g1 g2 g3) (S a0 a1 a2 a3 g0 g1 g2 g3)) : awp P E n (.loop x) (den P E n ks) af σ := by
  refine awp_loop (α := Nat × α0 × α1 × α2 × α3 × γ0 × γ1 × γ2 × γ3) (fun v => I v.2.1 v.2.2.1 v.2.2.2.1 v.2.2.2.2.1 v.2.2.2.2.2.1 v.2.2.2.2.2.2.1 v.2.2.2.2.2.2.2.1 v.2.2.2.2.2.2.2.2) (fun v => S v.2.1 v.2.2.1 v.2.2.2.1 v.2.2.2.2.1 v.2.2.2.2.2.1 v.2.2.2.2.2.2.1 v.2.2.2.2.2.2.2.1 v.2.2.2.2.2.2.2.2) (fun v => L v.1 v.2.1 v.2.2.1 v.2.2.2.1 v.2.2.2.2.1 = some r) (fun v => v.1) (m0, b0, b1, b2, b3, c0, c1, c2, c3) h start (fun v hv => ?_)
  obtain ⟨m, a0, a1, a2, a3, g0, g1, g2, g3⟩ := v
  dsimp only at hv ⊢
  cases m with
  | zero => rw [hz] at hv; cases hv
  | succ m =>
    rw [hs] at hv
    refine awp_mono (round (L m) a0 a1 a2 a3 g0 g1 g2 g3 hv) ?_
    intro e af' σ' h'
    cases e with
    | normal =>
      obtain ⟨a0, a1, a2, a3, g0, g1, g2, g3, h3, h4⟩ := h'
      exact ⟨(m, a0, a1, a2, a3, g0, g1, g2, g3), h3, Nat.lt_succ_self m, h4⟩
    | _ => exact h'
theorem k_join5_0 {α0 α1 α2 α3 α4 : Type} {k : (α0 → α1 → α2 → α3 → α4 → Option ρ)} {m : (α0 → α1 → α2 → α3 → α4 → Option ρ) → Option ρ} (h : jn k m = some r) (I : α0 → α1 → α2 → α3 → α4 → AF) (S : α0 → α1 → α2 → α3 → α4 → Items)
    (h1 : ∀ k' : (α0 → α1 → α2 → α3 → α4 → Option ρ), m k' = some r → awp P E n x (den P E n (kI (fun af' σ' => ∃ a0 a1 a2 a3 a4, k' a0 a1 a2 a3 a4 = some r ∧ Sub E n af' σ' (I a0 a1 a2 a3 a4) (S a0 a1 a2 a3 a4)) :: ks)) af σ)
    (h2 : ∀ a0 a1 a2 a3 a4, k a0 a1 a2 a3 a4 = some r → awp P E n y (den P E n ks) (I a0 a1 a2 a3 a4) (S a0 a1 a2 a3 a4)) : awp P E n (.seq x y) (den P E n ks) af σ := by
  refine k_seq (fun a w hh => wp_mono (h1 k h a w hh) ?_)
  rintro e a' w' ⟨af', σ', hh', h'⟩
  cases e with
  | normal =>
    obtain ⟨a0, a1, a2, a3, a4, h3, h4⟩ := h'
    exact ⟨_, _, h4 _ _ hh', h2 a0 a1 a2 a3 a4 h3⟩
  | _ => exact ⟨af', σ', hh', h'⟩
theorem k_loop5_0 {α0 α1 α2 α3 α4 : Type} (L : Nat → (α0 → α1 → α2 → α3 → α4 → Option ρ)) (B : (α0 → α1 → α2 → α3 → α4 → Option ρ) → (α0 → α1 → α2 → α3 → α4 → Option ρ)) (hz : ∀ a0 a1 a2 a3 a4, L 0 a0 a1 a2 a3 a4 = none) (hs : ∀ m, ∀ a0 a1 a2 a3 a4, L (m + 1) a0 a1 a2 a3 a4 = B (L m) a0 a1 a2 a3 a4) {m0 : Nat} {b0 : α0} {b1 : α1} {b2 : α2} {b3 : α3} {b4 : α4} (h : L m0 b0 b1 b2 b3 b4 = some r)
    (I : α0 → α1 → α2 → α3 → α4 → AF) (S : α0 → α1 → α2 → α3 → α4 → Items) (start : Sub E n af σ (I b0 b1 b2 b3 b4) (S b0 b1 b2 b3 b4))
    (round : ∀ rec : (α0 → α1 → α2 → α3 → α4 → Option ρ), ∀ a0 a1 a2 a3 a4, B rec a0 a1 a2 a3 a4 = some r → awp P E n x (den P E n (kI (fun af' σ' => ∃ a0 a1 a2 a3 a4, rec a0 a1 a2 a3 a4 = some r ∧ Sub E n af' σ' (I a0 a1 a2 a3 a4) (S a0 a1 a2 a3 a4)) :: ks)) (I a0 a1 a2 a3 a4) (S a0 a1 a2 a3 a4)) : awp P E n (.loop x) (den P E n ks) af σ := by
  refine awp_loop (α := Nat × α0 × α1 × α2 × α3 × α4) (fun v => I v.2.1 v.2.2.1 v.2.2.2.1 v.2.2.2.2.1 v.2.2.2.2.2) (fun v => S v.2.1 v.2.2.1 v.2.2.2.1 v.2.2.2.2.1 v.2.2.2.2.2) (fun v => L v.1 v.2.1 v.2.2.1 v.2.2.2.1 v.2.2.2.2.1 v.2.2.2.2.2 = some r) (fun v => v.1) (m0, b0, b1, b2, b3, b4) h start (fun v hv => ?_)
  obtain ⟨m, a0, a1, a2, a3, a4⟩ := v
  dsimp only at hv ⊢
  cases m with
  | zero => rw [hz] at hv; cases hv
  | succ m =>
    rw [hs] at hv
    refine awp_mono (round (L m) a0 a1 a2 a3 a4 hv) ?_
    intro e af' σ' h'
    cases e with
    | normal =>
      obtain ⟨a0, a1, a2, a3, a4, h3, h4⟩ := h'
      exact ⟨(m, a0, a1, a2, a3, a4), h3, Nat.lt_succ_self m, h4⟩
    | _ => exact h'
theorem k_join5_1 {α0 α1 α2 α3 α4 γ0 : Type} {k : (α0 → α1 → α2 → α3 → α4 → Option ρ)} {m : (α0 → α1 → α2 → α3 → α4 → Option ρ) → Option ρ} (h : jn k m = some r) (I : α0 → α1 → α2 → α3 → α4 → γ0 → AF) (S : α0 → α1 → α2 → α3 → α4 → γ0 → Items)
    (h1 : ∀ k' : (α0 → α1 → α2 → α3 → α4 → Option ρ), m k' = some r → awp P E n x (den P E n (kI (fun af' σ' => ∃ a0 a1 a2 a3 a4 g0, k' a0 a1 a2 a3 a4 = some r ∧ Sub E n af' σ' (I a0 a1 a2 a3 a4 g0) (S a0 a1 a2 a3 a4 g0)) :: ks)) af σ)
    (h2 : ∀ a0 a1 a2 a3 a4 g0, k a0 a1 a2 a3 a4 = some r → awp P E n y (den P E n ks) (I a0 a1 a2 a3 a4 g0) (S a0 a1 a2 a3 a4 g0)) : awp P E n (.seq x y) (den P E n ks) af σ := by
  refine k_seq (fun a w hh => wp_mono (h1 k h a w hh) ?_)
  rintro e a' w' ⟨af', σ', hh', h'⟩
  cases e with
  | normal =>
    obtain ⟨a0, a1, a2, a3, a4, g0, h3, h4⟩ := h'
    exact ⟨_, _, h4 _ _ hh', h2 a0 a1 a2 a3 a4 g0 h3⟩
  | _ => exact ⟨af', σ', hh', h'⟩
theorem k_loop5_1 {α0 α1 α2 α3 α4 γ0 : Type} (L : Nat → (α0 → α1 → α2 → α3 → α4 → Option ρ)) (B : (α0 → α1 → α2 → α3 → α4 → Option ρ) → (α0 → α1 → α2 → α3 → α4 → Option ρ)) (hz : ∀ a0 a1 a2 a3 a4, L 0 a0 a1 a2 a3 a4 = none) (hs : ∀ m, ∀ a0 a1 a2 a3 a4, L (m + 1) a0 a1 a2 a3 a4 = B (L m) a0 a1 a2 a3 a4) {m0 : Nat} {b0 : α0} {b1 : α1} {b2 : α2} {b3 : α3} {b4 : α4} (h : L m0 b0 b1 b2 b3 b4 = some r)
    (I : α0 → α1 → α2 → α3 → α4 → γ0 → AF) (S : α0 → α1 → α2 → α3 → α4 → γ0 → Items) (c0 : γ0) (start : Sub E n af σ (I b0 b1 b2 b3 b4 c0) (S b0 b1 b2 b3 b4 c0))
    (round : ∀ rec : (α0 → α1 → α2 → α3 → α4 → Option ρ), ∀ a0 a1 a2 a3 a4 g0, B rec a0 a1 a2 a3 a4 = some r → awp P E n x (den P E n (kI (fun af' σ' => ∃ a0 a1 a2 a3 a4 g0, rec a0 a1 a2 a3 a4 = some r ∧ Sub E n af' σ' (I a0 a1 a2 a3 a4 g0) (S a0 a1 a2 a3 a4 g0)) :: ks)) (I a0 a1 a2 a3 a4 g0) (S a0 a1 a2 a3 a4 g0)) : awp P E n (.loop x) (den P E n ks) af σ := by
  refine awp_loop (α := Nat × α0 × α1 × α2 × α3 × α4 × γ0) (fun v => I v.2.1 v.2.2.1 v.2.2.2.1 v.2.2.2.2.1 v.2.2.2.2.2.1 v.2.2.2.2.2.2) (fun v => S v.2.1 v.2.2.1 v.2.2.2.1 v.2.2.2.2.1 v.2.2.2.2.2.1 v.2.2.2.2.2.2) (fun v => L v.1 v.2.1 v.2.2.1 v.2.2.2.1 v.2.2.2.2.1 v.2.2.2.2.2.1 = some r) (fun v => v.1) (m0, b0, b1, b2, b3, b4, c0) h start (fun v hv => ?_)
  obtain ⟨m, a0, a1, a2, a3, a4, g0⟩ := v
  dsimp only at hv ⊢
  cases m with
  | zero => rw [hz] at hv; cases hv
  | succ m =>
    rw [hs] at hv
    refine awp_mono (round (L m) a0 a1 a2 a3 a4 g0 hv) ?_
    intro e af' σ' h'
    cases e with
    | normal =>
      obtain ⟨a0, a1, a2, a3, a4, g0, h3, h4⟩ := h'
      exact ⟨(m, a0, a1, a2, a3, a4, g0), h3, Nat.lt_succ_self m, h4⟩
    | _ => exact h'
theorem k_join5_2 {α0 α1 α2 α3 α4 γ0 γ1 : Type} {k : (α0 → α1 → α2 → α3 → α4 → Option ρ)} {m : (α0 → α1 → α2 → α3 → α4 → Option ρ) → Option ρ} (h : jn k m = some r) (I : α0 → α1 → α2 → α3 → α4 → γ0 → γ1 → AF) (S : α0 → α1 → α2 → α3 → α4 → γ0 → γ1 → Items)
    (h1 : ∀ k' : (α0 → α1 → α2 → α3 → α4 → Option ρ), m k' = some r → awp P E n x (den P E n (kI (fun af' σ' => ∃ a0 a1 a2 a3 a4 g0 g1, k' a0 a1 a2 a3 a4 = some r ∧ Sub E n af' σ' (I a0 a1 a2 a3 a4 g0 g1) (S a0 a1 a2 a3 a4 g0 g1)) :: ks)) af σ)
    (h2 : ∀ a0 a1 a2 a3 a4 g0 g1, k a0 a1 a2 a3 a4 = some r → awp P E n y (den P E n ks) (I a0 a1 a2 a3 a4 g0 g1) (S a0 a1 a2 a3 a4 g0 g1)) : awp P E n (.seq x y) (den P E n ks) af σ := by
  refine k_seq (fun a w hh => wp_mono (h1 k h a w hh) ?_)
  rintro e a' w' ⟨af', σ', hh', h'⟩
  cases e with
  | normal =>
    obtain ⟨a0, a1, a2, a3, a4, g0, g1, h3, h4⟩ := h'
    exact ⟨_, _, h4 _ _ hh', h2 a0 a1 a2 a3 a4 g0 g1 h3⟩
  | _ => exact ⟨af', σ', hh', h'⟩
theorem k_loop5_2 {α0 α1 α2 α3 α4 γ0 γ1 : Type} (L : Nat → (α0 → α1 → α2 → α3 → α4 → Option ρ)) (B : (α0 → α1 → α2 → α3 → α4 → Option ρ) → (α0 → α1 → α2 → α3 → α4 → Option ρ)) (hz : ∀ a0 a1 a2 a3 a4, L 0 a0 a1 a2 a3 a4 = none) (hs : ∀ m, ∀ a0 a1 a2 a3 a4, L (m + 1) a0 a1 a2 a3 a4 = B (L m) a0 a1 a2 a3 a4) {m0 : Nat} {b0 : α0} {b1 : α1} {b2 : α2} {b3 : α3} {b4 : α4} (h : L m0 b0 b1 b2 b3 b4 = some r)
    (I : α0 → α1 → α2 → α3 → α4 → γ0 → γ1 → AF) (S : α0 → α1 → α2 → α3 → α4 → γ0 → γ1 → Items) (c0 : γ0) (c1 : γ1) (start : Sub E n af σ (I b0 b1 b2 b3 b4 c0 c1) (S b0 b1 b2 b3 b4 c0 c1))
    (round : ∀ rec : (α0 → α1 → α2 → α3 → α4 → Option ρ), ∀ a0 a1 a2 a3 a4 g0 g1, B rec a0 a1 a2 a3 a4 = some r → awp P E n x (den P E n (kI (fun af' σ' => ∃ a0 a1 a2 a3 a4 g0 g1, rec a0 a1 a2 a3 a4 = some r ∧ Sub E n af' σ' (I a0 a1 a2 a3 a4 g0 g1) (S a0 a1 a2 a3 a4 g0 g1)) :: ks)) (I a0 a1 a2 a3 a4 g0 g1) (S a0 a1 a2 a3 a4 g0 g1)) : awp P E n (.loop x) (den P E n ks) af σ := by
  refine awp_loop (α := Nat × α0 × α1 × α2 × α3 × α4 × γ0 × γ1) (fun v => I v.2.1 v.2.2.1 v.2.2.2.1 v.2.2.2.2.1 v.2.2.2.2.2.1 v.2.2.2.2.2.2.1 v.2.2.2.2.2.2.2) (fun v => S v.2.1 v.2.2.1 v.2.2.2.1 v.2.2.2.2.1 v.2.2.2.2.2.1 v.2.2.2.2.2.2.1 v.2.2.2.2.2.2.2) (fun v => L v.1 v.2.1 v.2.2.1 v.2.2.2.1 v.2.2.2.2.1 v.2.2.2.2.2.1 = some r) (fun v => v.1) (m0, b0, b1, b2, b3, b4, c0, c1) h start (fun v hv => ?_)
  obtain ⟨m, a0, a1, a2, a3, a4, g0, g1⟩ := v
  dsimp only at hv ⊢
  cases m with
  | zero => rw [hz] at hv; cases hv
  | succ m =>
    rw [hs] at hv
    refine awp_mono (round (L m) a0 a1 a2 a3 a4 g0 g1 hv) ?_
    intro e af' σ' h'
    cases e with
    | normal =>
      obtain ⟨a0, a1, a2, a3, a4, g0, g1, h3, h4⟩ := h'
      exact ⟨(m, a0, a1, a2, a3, a4, g0, g1), h3, Nat.lt_succ_self m, h4⟩
    | _ => exact h'
theorem k_join5_3 {α0 α1 α2 α3 α4 γ0 γ1 γ2 : Type} {k : (α0 → α1 → α2 → α3 → α4 → Option ρ)} {m : (α0 → α1 → α2 → α3 → α4 → Option ρ) → Option ρ} (h : jn k m = some r) (I : α0 → α1 → α2 → α3 → α4 → γ0 → γ1 → γ2 → AF) (S : α0 → α1 → α2 → α3 → α4 → γ0 → γ1 → γ2 → Items)
    (h1 : ∀ k' : (α0 → α1 → α2 → α3 → α4 → Option ρ), m k' = some r → awp P E n x (den P E n (kI (fun af' σ' => ∃ a0 a1 a2 a3 a4 g0 g1 g2, k' a0 a1 a2 a3 a4 = some r ∧ Sub E n af' σ' (I a0 a1 a2 a3 a4 g0 g1 g2) (S a0 a1 a2 a3 a4 g0 g1 g2)) :: ks)) af σ)
    (h2 : ∀ a0 a1 a2 a3 a4 g0 g1 g2, k a0 a1 a2 a3 a4 = some r → awp P E n y (den P E n ks) (I a0 a1 a2 a3 a4 g0 g1 g2) (S a0 a1 a2 a3 a4 g0 g1 g2)) : awp P E n (.seq x y) (den P E n ks) af σ := by
  refine k_seq (fun a w hh => wp_mono (h1 k h a w hh) ?_)
  rintro e a' w' ⟨af', σ', hh', h'⟩
  cases e with
  | normal =>
    obtain ⟨a0, a1, a2, a3, a4, g0, g1, g2, h3, h4⟩ := h'
    exact ⟨_, _, h4 _ _ hh', h2 a0 a1 a2 a3 a4 g0 g1 g2 h3⟩
  | _ => exact ⟨af', σ', hh', h'⟩
theorem k_loop5_3 {α0 α1 α2 α3 α4 γ0 γ1 γ2 : Type} (L : Nat → (α0 → α1 → α2 → α3 → α4 → Option ρ)) (B : (α0 → α1 → α2 → α3 → α4 → Option ρ) → (α0 → α1 → α2 → α3 → α4 → Option ρ)) (hz : ∀ a0 a1 a2 a3 a4, L 0 a0 a1 a2 a3 a4 = none) (hs : ∀ m, ∀ a0 a1 a2 a3 a4, L (m + 1) a0 a1 a2 a3 a4 = B (L m) a0 a1 a2 a3 a4) {m0 : Nat} {b0 : α0} {b1 : α1} {b2 : α2} {b3 : α3} {b4 : α4} (h : L m0 b0 b1 b2 b3 b4 = some r)
    (I : α0 → α1 → α2 → α3 → α4 → γ0 → γ1 → γ2 → AF) (S : α0 → α1 → α2 → α3 → α4 → γ0 → γ1 → γ2 → Items) (c0 : γ0) (c1 : γ1) (c2 : γ2) (start : Sub E n af σ (I b0 b1 b2 b3 b4 c0 c1 c2) (S b0 b1 b2 b3 b4 c0 c1 c2))
    (round : ∀ rec : (α0 → α1 → α2 → α3 → α4 → Option ρ), ∀ a0 a1 a2 a3 a4 g0 g1 g2, B rec a0 a1 a2 a3 a4 = some r → awp P E n x (den P E n (kI (fun af' σ' => ∃ a0 a1 a2 a3 a4 g0 g1 g2, rec a0 a1 a2 a3 a4 = some r ∧ Sub E n af' σ' (I a0 a1 a2 a3 a4 g0 g1 g2) (S a0 a1 a2 a3 a4 g0 g1 g2)) :: ks)) (I a0 a1 a2 a3 a4 g0 g1 g2) (S a0 a1 a2 a3 a4 g0 g1 g2)) : awp P E n (.loop x) (den P E n ks) af σ := by
  refine awp_loop (α := Nat × α0 × α1 × α2 × α3 × α4 × γ0 × γ1 × γ2) (fun v => I v.2.1 v.2.2.1 v.2.2.2.1 v.2.2.2.2.1 v.2.2.2.2.2.1 v.2.2.2.2.2.2.1 v.2.2.2.2.2.2.2.1 v.2.2.2.2.2.2.2.2) (fun v => S v.2.1 v.2.2.1 v.2.2.2.1 v.2.2.2.2.1 v.2.2.2.2.2.1 v.2.2.2.2.2.2.1 v.2.2.2.2.2.2.2.1 v.2.2.2.2.2.2.2.2) (fun v => L v.1 v.2.1 v.2.2.1 v.2.2.2.1 v.2.2.2.2.1 v.2.2.2.2.2.1 = some r) (fun v => v.1) (m0, b0, b1, b2, b3, b4, c0, c1, c2) h start (fun v hv => ?_)
  obtain ⟨m, a0, a1, a2, a3, a4, g0, g1, g2⟩ := v
  dsimp only at hv ⊢
  cases m with
  | zero => rw [hz] at hv; cases hv
  | succ m =>
    rw [hs] at hv
    refine awp_mono (round (L m) a0 a1 a2 a3 a4 g0 g1 g2 hv) ?_
    intro e af' σ' h'
    cases e with
    | normal =>
      obtain ⟨a0, a1, a2, a3, a4, g0, g1, g2, h3, h4⟩ := h'
      exact ⟨(m, a0, a1, a2, a3, a4, g0, g1, g2), h3, Nat.lt_succ_self m, h4⟩
    | _ => exact h'
theorem k_join5_4 {α0 α1 α2 α3 α4 γ0 γ1 γ2 γ3 : Type} {k : (α0 → α1 → α2 → α3 → α4 → Option ρ)} {m : (α0 → α1 → α2 → α3 → α4 → Option ρ) → Option ρ} (h : jn k m = some r) (I : α0 → α1 → α2 → α3 → α4 → γ0 → γ1 → γ2 → γ3 → AF) (S : α0 → α1 → α2 → α3 → α4 → γ0 → γ1 → γ2 → γ3 → Items)
    (h1 : ∀ k' : (α0 → α1 → α2 → α3 → α4 → Option ρ), m k' = some r → awp P E n x (den P E n (kI (fun af' σ' => ∃ a0 a1 a2 a3 a4 g0 g1 g2 g3, k' a0 a1 a2 a3 a4 = some r ∧ Sub E n af' σ' (I a0 a1 a2 a3 a4 g0 g1 g2 g3) (S a0 a1 a2 a3 a4 g0 g1 g2 g3)) :: ks)) af σ)
    (h2 : ∀ a0 a1 a2 a3 a4 g0 g1 g2 g3, k a0 a1 a2 a3 a4 = some r → awp P E n y (den P E n ks) (I a0 a1 a2 a3 a4 g0 g1 g2 g3) (S a0 a1 a2 a3 a4 g0 g1 g2 g3)) : awp P E n (.seq x y) (den P E n ks) af σ := by
  refine k_seq (fun a w hh => wp_mono (h1 k h a w hh) ?_)
  rintro e a' w' ⟨af', σ', hh', h'⟩
  cases e with
  | normal =>
    obtain ⟨a0, a1, a2, a3, a4, g0, g1, g2, g3, h3, h4⟩ := h'
    exact ⟨_, _, h4 _ _ hh', h2 a0 a1 a2 a3 a4 g0 g1 g2 g3 h3⟩
  | _ => exact ⟨af', σ', hh', h'⟩
theorem k_loop5_4 {α0 α1 α2 α3 α4 γ0 γ1 γ2 γ3 : Type} (L : Nat → (α0 → α1 → α2 → α3 → α4 → Option ρ)) (B : (α0 → α1 → α2 → α3 → α4 → Option ρ) → (α0 → α1 → α2 → α3 → α4 → Option ρ)) (hz : ∀ a0 a1 a2 a3 a4, L 0 a0 a1 a2 a3 a4 = none) (hs : ∀ m, ∀ a0 a1 a2 a3 a4, L (m + 1) a0 a1 a2 a3 a4 = B (L m) a0 a1 a2 a3 a4) {m0 : Nat} {b0 : α0} {b1 : α1} {b2 : α2} {b3 : α3} {b4 : α4} (h : L m0 b0 b1 b2 b3 b4 = some r)
    (I : α0 → α1 → α2 → α3 → α4 → γ0 → γ1 → γ2 → γ3 → AF) (S : α0 → α1 → α2 → α3 → α4 → γ0 → γ1 → γ2 → γ3 → Items) (c0 : γ0) (c1 : γ1) (c2 : γ2) (c3 : γ3) (start : Sub E n af σ (I b0 b1 b2 b3 b4 c0 c1 c2 c3) (S b0 b1 b2 b3 b4 c0 c1 c2 c3))
    (round : ∀ rec : (α0 → α1 → α2 → α3 → α4 → Option ρ), ∀ a0 a1 a2 a3 a4 g0 g1 g2 g3, B rec a0 a1 a2 a3 a4 = some r → awp P E n x (den P E n (kI (fun af' σ' => ∃ a0 a1 a2 a3 a4 g0 g1 g2 g3, rec a0 a1 a2 a3 a4 = some r ∧ Sub E n af' σ' (I a0 a1 a2 a3 a4 g0 g1 g2 g3) (S a0 a1 a2 a3 a4 g0 g1 g2 g3)) :: ks)) (I a0 a1 a2 a3 a4 g0 g1 g2 g3) (S a0 a1 a2 a3 a4 g0 g1 g2 g3)) : awp P E n (.loop x) (den P E n ks) af σ := by
  refine awp_loop (α := Nat × α0 × α1 × α2 × α3 × α4 × γ0 × γ1 × γ2 × γ3) (fun v => I v.2.1 v.2.2.1 v.2.2.2.1 v.2.2.2.2.1 v.2.2.2.2.2.1 v.2.2.2.2.2.2.1 v.2.2.2.2.2.2.2.1 v.2.2.2.2.2.2.2.2.1 v.2.2.2.2.2.2.2.2.2) (fun v => S v.2.1 v.2.2.1 v.2.2.2.1 v.2.2.2.2.1 v.2.2.2.2.2.1 v.2.2.2.2.2.2.1 v.2.2.2.2.2.2.2.1 v.2.2.2.2.2.2.2.2.1 v.2.2.2.2.2.2.2.2.2) (fun v => L v.1 v.2.1 v.2.2.1 v.2.2.2.1 v.2.2.2.2.1 v.2.2.2.2.2.1 = some r) (fun v => v.1) (m0, b0, b1, b2, b3, b4, c0, c1, c2, c3) h start (fun v hv => ?_)
  obtain ⟨m, a0, a1, a2, a3, a4, g0, g1, g2, g3⟩ := v
  dsimp only at hv ⊢
  cases m with
  | zero => rw [hz] at hv; cases hv
  | succ m =>
    rw [hs] at hv
    refine awp_mono (round (L m) a0 a1 a2 a3 a4 g0 g1 g2 g3 hv) ?_
    intro e af' σ' h'
    cases e with
    | normal =>
      obtain ⟨a0, a1, a2, a3, a4, g0, g1, g2, g3, h3, h4⟩ := h'
      exact ⟨(m, a0, a1, a2, a3, a4, g0, g1, g2, g3), h3, Nat.lt_succ_self m, h4⟩
    | _ => exact h'
theorem k_join6_0 {α0 α1 α2 α3 α4 α5 : Type} {k : (α0 → α1 → α2 → α3 → α4 → α5 → Option ρ)} {m : (α0 → α1 → α2 → α3 → α4 → α5 → Option ρ) → Option ρ} (h : jn k m = some r) (I : α0 → α1 → α2 → α3 → α4 → α5 → AF) (S : α0 → α1 → α2 → α3 → α4 → α5 → Items)
    (h1 : ∀ k' : (α0 → α1 → α2 → α3 → α4 → α5 → Option ρ), m k' = some r → awp P E n x (den P E n (kI (fun af' σ' => ∃ a0 a1 a2 a3 a4 a5, k' a0 a1 a2 a3 a4 a5 = some r ∧ Sub E n af' σ' (I a0 a1 a2 a3 a4 a5) (S a0 a1 a2 a3 a4 a5)) :: ks)) af σ)
    (h2 : ∀ a0 a1 a2 a3 a4 a5, k a0 a1 a2 a3 a4 a5 = some r → awp P E n y (den P E n ks) (I a0 a1 a2 a3 a4 a5) (S a0 a1 a2 a3 a4 a5)) : awp P E n (.seq x y) (den P E n ks) af σ := by
  refine k_seq (fun a w hh => wp_mono (h1 k h a w hh) ?_)
  rintro e a' w' ⟨af', σ', hh', h'⟩
  cases e with
  | normal =>
    obtain ⟨a0, a1, a2, a3, a4, a5, h3, h4⟩ := h'
    exact ⟨_, _, h4 _ _ hh', h2 a0 a1 a2 a3 a4 a5 h3⟩
  | _ => exact ⟨af', σ', hh', h'⟩
theorem k_loop6_0 {α0 α1 α2 α3 α4 α5 : Type} (L : Nat → (α0 → α1 → α2 → α3 → α4 → α5 → Option ρ)) (B : (α0 → α1 → α2 → α3 → α4 → α5 → Option ρ) → (α0 → α1 → α2 → α3 → α4 → α5 → Option ρ)) (hz : ∀ a0 a1 a2 a3 a4 a5, L 0 a0 a1 a2 a3 a4 a5 = none) (hs : ∀ m, ∀ a0 a1 a2 a3 a4 a5, L (m + 1) a0 a1 a2 a3 a4 a5 = B (L m) a0 a1 a2 a3 a4 a5) {m0 : Nat} {b0 : α0} {b1 : α1} {b2 : α2} {b3 : α3} {b4 : α4} {b5 : α5} (h : L m0 b0 b1 b2 b3 b4 b5 = some r)
    (I : α0 → α1 → α2 → α3 → α4 → α5 → AF) (S : α0 → α1 → α2 → α3 → α4 → α5 → Items) (start : Sub E n af σ (I b0 b1 b2 b3 b4 b5) (S b0 b1 b2 b3 b4 b5))
    (round : ∀ rec : (α0 → α1 → α2 → α3 → α4 → α5 → Option ρ), ∀ a0 a1 a2 a3 a4 a5, B rec a0 a1 a2 a3 a4 a5 = some r → awp P E n x (den P E n (kI (fun af' σ' => ∃ a0 a1 a2 a3 a4 a5, rec a0 a1 a2 a3 a4 a5 = some r ∧ Sub E n af' σ' (I a0 a1 a2 a3 a4 a5) (S a0 a1 a2 a3 a4 a5)) :: ks)) (I a0 a1 a2 a3 a4 a5) (S a0 a1 a2 a3 a4 a5)) : awp P E n (.loop x) (den P E n ks) af σ := by
  refine awp_loop (α := Nat × α0 × α1 × α2 × α3 × α4 × α5) (fun v => I v.2.1 v.2.2.1 v.2.2.2.1 v.2.2.2.2.1 v.2.2.2.2.2.1 v.2.2.2.2.2.2) (fun v => S v.2.1 v.2.2.1 v.2.2.2.1 v.2.2.2.2.1 v.2.2.2.2.2.1 v.2.2.2.2.2.2) (fun v => L v.1 v.2.1 v.2.2.1 v.2.2.2.1 v.2.2.2.2.1 v.2.2.2.2.2.1 v.2.2.2.2.2.2 = some r) (fun v => v.1) (m0, b0, b1, b2, b3, b4, b5) h start (fun v hv => ?_)
  obtain ⟨m, a0, a1, a2, a3, a4, a5⟩ := v
  dsimp only at hv ⊢
  cases m with
  | zero => rw [hz] at hv; cases hv
  | succ m =>
    rw [hs] at hv
    refine awp_mono (round (L m) a0 a1 a2 a3 a4 a5 hv) ?_
    intro e af' σ' h'
    cases e with
    | normal =>
      obtain ⟨a0, a1, a2, a3, a4, a5, h3, h4⟩ := h'
      exact ⟨(m, a0, a1, a2, a3, a4, a5), h3, Nat.lt_succ_self m, h4⟩
    | _ => exact h'
theorem k_join6_1 {α0 α1 α2 α3 α4 α5 γ0 : Type} {k : (α0 → α1 → α2 → α3 → α4 → α5 → Option ρ)} {m : (α0 → α1 → α2 → α3 → α4 → α5 → Option ρ) → Option ρ} (h : jn k m = some r) (I : α0 → α1 → α2 → α3 → α4 → α5 → γ0 → AF) (S : α0 → α1 → α2 → α3 → α4 → α5 → γ0 → Items)
    (h1 : ∀ k' : (α0 → α1 → α2 → α3 → α4 → α5 → Option ρ), m k' = some r → awp P E n x (den P E n (kI (fun af' σ' => ∃ a0 a1 a2 a3 a4 a5 g0, k' a0 a1 a2 a3 a4 a5 = some r ∧ Sub E n af' σ' (I a0 a1 a2 a3 a4 a5 g0) (S a0 a1 a2 a3 a4 a5 g0)) :: ks)) af σ)
    (h2 : ∀ a0 a1 a2 a3 a4 a5 g0, k a0 a1 a2 a3 a4 a5 = some r → awp P E n y (den P E n ks) (I a0 a1 a2 a3 a4 a5 g0) (S a0 a1 a2 a3 a4 a5 g0)) : awp P E n (.seq x y) (den P E n ks) af σ := by
  refine k_seq (fun a w hh => wp_mono (h1 k h a w hh) ?_)
  rintro e a' w' ⟨af', σ', hh', h'⟩
  cases e with
  | normal =>
    obtain ⟨a0, a1, a2, a3, a4, a5, g0, h3, h4⟩ := h'
    exact ⟨_, _, h4 _ _ hh', h2 a0 a1 a2 a3 a4 a5 g0 h3⟩
  | _ => exact ⟨af', σ', hh', h'⟩
theorem k_loop6_1 {α0 α1 α2 α3 α4 α5 γ0 : Type} (L : Nat → (α0 → α1 → α2 → α3 → α4 → α5 → Option ρ)) (B : (α0 → α1 → α2 → α3 → α4 → α5 → Option ρ) → (α0 → α1 → α2 → α3 → α4 → α5 → Option ρ)) (hz : ∀ a0 a1 a2 a3 a4 a5, L 0 a0 a1 a2 a3 a4 a5 = none) (hs : ∀ m, ∀ a0 a1 a2 a3 a4 a5, L (m + 1) a0 a1 a2 a3 a4 a5 = B (L m) a0 a1 a2 a3 a4 a5) {m0 : Nat} {b0 : α0} {b1 : α1} {b2 : α2} {b3 : α3} {b4 : α4} {b5 : α5} (h : L m0 b0 b1 b2 b3 b4 b5 = some r)
    (I : α0 → α1 → α2 → α3 → α4 → α5 → γ0 → AF) (S : α0 → α1 → α2 → α3 → α4 → α5 → γ0 → Items) (c0 : γ0) (start : Sub E n af σ (I b0 b1 b2 b3 b4 b5 c0) (S b0 b1 b2 b3 b4 b5 c0))
    (round : ∀ rec : (α0 → α1 → α2 → α3 → α4 → α5 → Option ρ), ∀ a0 a1 a2 a3 a4 a5 g0, B rec a0 a1 a2 a3 a4 a5 = some r → awp P E n x (den P E n (kI (fun af' σ' => ∃ a0 a1 a2 a3 a4 a5 g0, rec a0 a1 a2 a3 a4 a5 = some r ∧ Sub E n af' σ' (I a0 a1 a2 a3 a4 a5 g0) (S a0 a1 a2 a3 a4 a5 g0)) :: ks)) (I a0 a1 a2 a3 a4 a5 g0) (S a0 a1 a2 a3 a4 a5 g0)) : awp P E n (.loop x) (den P E n ks) af σ := by
  refine awp_loop (α := Nat × α0 × α1 × α2 × α3 × α4 × α5 × γ0) (fun v => I v.2.1 v.2.2.1 v.2.2.2.1 v.2.2.2.2.1 v.2.2.2.2.2.1 v.2.2.2.2.2.2.1 v.2.2.2.2.2.2.2) (fun v => S v.2.1 v.2.2.1 v.2.2.2.1 v.2.2.2.2.1 v.2.2.2.2.2.1 v.2.2.2.2.2.2.1 v.2.2.2.2.2.2.2) (fun v => L v.1 v.2.1 v.2.2.1 v.2.2.2.1 v.2.2.2.2.1 v.2.2.2.2.2.1 v.2.2.2.2.2.2.1 = some r) (fun v => v.1) (m0, b0, b1, b2, b3, b4, b5, c0) h start (fun v hv => ?_)
  obtain ⟨m, a0, a1, a2, a3, a4, a5, g0⟩ := v
  dsimp only at hv ⊢
  cases m with
  | zero => rw [hz] at hv; cases hv
  | succ m =>
    rw [hs] at hv
    refine awp_mono (round (L m) a0 a1 a2 a3 a4 a5 g0 hv) ?_
    intro e af' σ' h'
    cases e with
    | normal =>
      obtain ⟨a0, a1, a2, a3, a4, a5, g0, h3, h4⟩ := h'
      exact ⟨(m, a0, a1, a2, a3, a4, a5, g0), h3, Nat.lt_succ_self m, h4⟩
    | _ => exact h'
theorem k_join6_2 {α0 α1 α2 α3 α4 α5 γ0 γ1 : Type} {k : (α0 → α1 → α2 → α3 → α4 → α5 → Option ρ)} {m : (α0 → α1 → α2 → α3 → α4 → α5 → Option ρ) → Option ρ} (h : jn k m = some r) (I : α0 → α1 → α2 → α3 → α4 → α5 → γ0 → γ1 → AF) (S : α0 → α1 → α2 → α3 → α4 → α5 → γ0 → γ1 → Items)
    (h1 : ∀ k' : (α0 → α1 → α2 → α3 → α4 → α5 → Option ρ), m k' = some r → awp P E n x (den P E n (kI (fun af' σ' => ∃ a0 a1 a2 a3 a4 a5 g0 g1, k' a0 a1 a2 a3 a4 a5 = some r ∧ Sub E n af' σ' (I a0 a1 a2 a3 a4 a5 g0 g1) (S a0 a1 a2 a3 a4 a5 g0 g1)) :: ks)) af σ)
    (h2 : ∀ a0 a1 a2 a3 a4 a5 g0 g1, k a0 a1 a2 a3 a4 a5 = some r → awp P E n y (den P E n ks) (I a0 a1 a2 a3 a4 a5 g0 g1) (S a0 a1 a2 a3 a4 a5 g0 g1)) : awp P E n (.seq x y) (den P E n ks) af σ := by
  refine k_seq (fun a w hh => wp_mono (h1 k h a w hh) ?_)
  rintro e a' w' ⟨af', σ', hh', h'⟩
  cases e with
  | normal =>
    obtain ⟨a0, a1, a2, a3, a4, a5, g0, g1, h3, h4⟩ := h'
    exact ⟨_, _, h4 _ _ hh', h2 a0 a1 a2 a3 a4 a5 g0 g1 h3⟩
  | _ => exact ⟨af', σ', hh', h'⟩
theorem k_loop6_2 {α0 α1 α2 α3 α4 α5 γ0 γ1 : Type} (L : Nat → (α0 → α1 → α2 → α3 → α4 → α5 → Option ρ)) (B : (α0 → α1 → α2 → α3 → α4 → α5 → Option ρ) → (α0 → α1 → α2 → α3 → α4 → α5 → Option ρ)) (hz : ∀ a0 a1 a2 a3 a4 a5, L 0 a0 a1 a2 a3 a4 a5 = none) (hs : ∀ m, ∀ a0 a1 a2 a3 a4 a5, L (m + 1) a0 a1 a2 a3 a4 a5 = B (L m) a0 a1 a2 a3 a4 a5) {m0 : Nat} {b0 : α0} {b1 : α1} {b2 : α2} {b3 : α3} {b4 : α4} {b5 : α5} (h : L m0 b0 b1 b2 b3 b4 b5 = some r)
    (I : α0 → α1 → α2 → α3 → α4 → α5 → γ0 → γ1 → AF) (S : α0 → α1 → α2 → α3 → α4 → α5 → γ0 → γ1 → Items) (c0 : γ0) (c1 : γ1) (start : Sub E n af σ (I b0 b1 b2 b3 b4 b5 c0 c1) (S b0 b1 b2 b3 b4 b5 c0 c1))
    (round : ∀ rec : (α0 → α1 → α2 → α3 → α4 → α5 → Option ρ), ∀ a0 a1 a2 a3 a4 a5 g0 g1, B rec a0 a1 a2 a3 a4 a5 = some r → awp P E n x (den P E n (kI (fun af' σ' => ∃ a0 a1 a2 a3 a4 a5 g0 g1, rec a0 a1 a2 a3 a4 a5 = some r ∧ Sub E n af' σ' (I a0 a1 a2 a3 a4 a5 g0 g1) (S a0 a1 a2 a3 a4 a5 g0 g1)) :: ks)) (I a0 a1 a2 a3 a4 a5 g0 g1) (S a0 a1 a2 a3 a4 a5 g0 g1)) : awp P E n (.loop x) (den P E n ks) af σ := by
  refine awp_loop (α := Nat × α0 × α1 × α2 × α3 × α4 × α5 × γ0 × γ1) (fun v => I v.2.1 v.2.2.1 v.2.2.2.1 v.2.2.2.2.1 v.2.2.2.2.2.1 v.2.2.2.2.2.2.1 v.2.2.2.2.2.2.2.1 v.2.2.2.2.2.2.2.2) (fun v => S v.2.1 v.2.2.1 v.2.2.2.1 v.2.2.2.2.1 v.2.2.2.2.2.1 v.2.2.2.2.2.2.1 v.2.2.2.2.2.2.2.1 v.2.2.2.2.2.2.2.2) (fun v => L v.1 v.2.1 v.2.2.1 v.2.2.2.1 v.2.2.2.2.1 v.2.2.2.2.2.1 v.2.2.2.2.2.2.1 = some r) (fun v => v.1) (m0, b0, b1, b2, b3, b4, b5, c0, c1) h start (fun v hv => ?_)
  obtain ⟨m, a0, a1, a2, a3, a4, a5, g0, g1⟩ := v
  dsimp only at hv ⊢
  cases m with
  | zero => rw [hz] at hv; cases hv
  | succ m =>
    rw [hs] at hv
    refine awp_mono (round (L m) a0 a1 a2 a3 a4 a5 g0 g1 hv) ?_
    intro e af' σ' h'
    cases e with
    | normal =>
      obtain ⟨a0, a1, a2, a3, a4, a5, g0, g1, h3, h4⟩ := h'
      exact ⟨(m, a0, a1, a2, a3, a4, a5, g0, g1), h3, Nat.lt_succ_self m, h4⟩
    | _ => exact h'
theorem k_join6_3 {α0 α1 α2 α3 α4 α5 γ0 γ1 γ2 : Type} {k : (α0 → α1 → α2 → α3 → α4 → α5 → Option ρ)} {m : (α0 → α1 → α2 → α3 → α4 → α5 → Option ρ) → Option ρ} (h : jn k m = some r) (I : α0 → α1 → α2 → α3 → α4 → α5 → γ0 → γ1 → γ2 → AF) (S : α0 → α1 → α2 → α3 → α4 → α5 → γ0 → γ1 → γ2 → Items)
    (h1 : ∀ k' : (α0 → α1 → α2 → α3 → α4 → α5 → Option ρ), m k' = some r → awp P E n x (den P E n (kI (fun af' σ' => ∃ a0 a1 a2 a3 a4 a5 g0 g1 g2, k' a0 a1 a2 a3 a4 a5 = some r ∧ Sub E n af' σ' (I a0 a1 a2 a3 a4 a5 g0 g1 g2) (S a0 a1 a2 a3 a4 a5 g0 g1 g2)) :: ks)) af σ)
    (h2 : ∀ a0 a1 a2 a3 a4 a5 g0 g1 g2, k a0 a1 a2 a3 a4 a5 = some r → awp P E n y (den P E n ks) (I a0 a1 a2 a3 a4 a5 g0 g1 g2) (S a0 a1 a2 a3 a4 a5 g0 g1 g2)) : awp P E n (.seq x y) (den P E n ks) af σ := by
  refine k_seq (fun a w hh => wp_mono (h1 k h a w hh) ?_)
  rintro e a' w' ⟨af', σ', hh', h'⟩
  cases e with
  | normal =>
    obtain ⟨a0, a1, a2, a3, a4, a5, g0, g1, g2, h3, h4⟩ := h'
    exact ⟨_, _, h4 _ _ hh', h2 a0 a1 a2 a3 a4 a5 g0 g1 g2 h3⟩
  | _ => exact ⟨af', σ', hh', h'⟩
theorem k_loop6_3 {α0 α1 α2 α3 α4 α5 γ0 γ1 γ2 : Type} (L : Nat → (α0 → α1 → α2 → α3 → α4 → α5 → Option ρ)) (B : (α0 → α1 → α2 → α3 → α4 → α5 → Option ρ) → (α0 → α1 → α2 → α3 → α4 → α5 → Option ρ)) (hz : ∀ a0 a1 a2 a3 a4 a5, L 0 a0 a1 a2 a3 a4 a5 = none) (hs : ∀ m, ∀ a0 a1 a2 a3 a4 a5, L (m + 1) a0 a1 a2 a3 a4 a5 = B (L m) a0 a1 a2 a3 a4 a5) {m0 : Nat} {b0 : α0} {b1 : α1} {b2 : α2} {b3 : α3} {b4 : α4} {b5 : α5} (h : L m0 b0 b1 b2 b3 b4 b5 = some r)
    (I : α0 → α1 → α2 → α3 → α4 → α5 → γ0 → γ1 → γ2 → AF) (S : α0 → α1 → α2 → α3 → α4 → α5 → γ0 → γ1 → γ2 → Items) (c0 : γ0) (c1 : γ1) (c2 : γ2) (start : Sub E n af σ (I b0 b1 b2 b3 b4 b5 c0 c1 c2) (S b0 b1 b2 b3 b4 b5 c0 c1 c2))
    (round : ∀ rec : (α0 → α1 → α2 → α3 → α4 → α5 → Option ρ), ∀ a0 a1 a2 a3 a4 a5 g0 g1 g2, B rec a0 a1 a2 a3 a4 a5 = some r → awp P E n x (den P E n (kI (fun af' σ' => ∃ a0 a1 a2 a3 a4 a5 g0 g1 g2, rec a0 a1 a2 a3 a4 a5 = some r ∧ Sub E n af' σ' (I a0 a1 a2 a3 a4 a5 g0 g1 g2) (S a0 a1 a2 a3 a4 a5 g0 g1 g2)) :: ks)) (I a0 a1 a2 a3 a4 a5 g0 g1 g2) (S a0 a1 a2 a3 a4 a5 g0 g1 g2)) : awp P E n (.loop x) (den P E n ks) af σ := by
  refine awp_loop (α := Nat × α0 × α1 × α2 × α3 × α4 × α5 × γ0 × γ1 × γ2) (fun v => I v.2.1 v.2.2.1 v.2.2.2.1 v.2.2.2.2.1 v.2.2.2.2.2.1 v.2.2.2.2.2.2.1 v.2.2.2.2.2.2.2.1 v.2.2.2.2.2.2.2.2.1 v.2.2.2.2.2.2.2.2.2) (fun v => S v.2.1 v.2.2.1 v.2.2.2.1 v.2.2.2.2.1 v.2.2.2.2.2.1 v.2.2.2.2.2.2.1 v.2.2.2.2.2.2.2.1 v.2.2.2.2.2.2.2.2.1 v.2.2.2.2.2.2.2.2.2) (fun v => L v.1 v.2.1 v.2.2.1 v.2.2.2.1 v.2.2.2.2.1 v.2.2.2.2.2.1 v.2.2.2.2.2.2.1 = some r) (fun v => v.1) (m0, b0, b1, b2, b3, b4, b5, c0, c1, c2) h start (fun v hv => ?_)
  obtain ⟨m, a0, a1, a2, a3, a4, a5, g0, g1, g2⟩ := v
  dsimp only at hv ⊢
  cases m with
  | zero => rw [hz] at hv; cases hv
  | succ m =>
    rw [hs] at hv
    refine awp_mono (round (L m) a0 a1 a2 a3 a4 a5 g0 g1 g2 hv) ?_
    intro e af' σ' h'
    cases e with
    | normal =>
      obtain ⟨a0, a1, a2, a3, a4, a5, g0, g1, g2, h3, h4⟩ := h'
      exact ⟨(m, a0, a1, a2, a3, a4, a5, g0, g1, g2), h3, Nat.lt_succ_self m, h4⟩
    | _ => exact h'
theorem k_join6_4 {α0 α1 α2 α3 α4 α5 γ0 γ1 γ2 γ3 : Type} {k : (α0 → α1 → α2 → α3 → α4 → α5 → Option ρ)} {m : (α0 → α1 → α2 → α3 → α4 → α5 → Option ρ) → Option ρ} (h : jn k m = some r) (I : α0 → α1 → α2 → α3 → α4 → α5 → γ0 → γ1 → γ2 → γ3 → AF) (S : α0 → α1 → α2 → α3 → α4 → α5 → γ0 → γ1 → γ2 → γ3 → Items)
    (h1 : ∀ k' : (α0 → α1 → α2 → α3 → α4 → α5 → Option ρ), m k' = some r → awp P E n x (den P E n (kI (fun af' σ' => ∃ a0 a1 a2 a3 a4 a5 g0 g1 g2 g3, k' a0 a1 a2 a3 a4 a5 = some r ∧ Sub E n af' σ' (I a0 a1 a2 a3 a4 a5 g0 g1 g2 g3) (S a0 a1 a2 a3 a4 a5 g0 g1 g2 g3)) :: ks)) af σ)
    (h2 : ∀ a0 a1 a2 a3 a4 a5 g0 g1 g2 g3, k a0 a1 a2 a3 a4 a5 = some r → awp P E n y (den P E n ks) (I a0 a1 a2 a3 a4 a5 g0 g1 g2 g3) (S a0 a1 a2 a3 a4 a5 g0 g1 g2 g3)) : awp P E n (.seq x y) (den P E n ks) af σ := by
  refine k_seq (fun a w hh => wp_mono (h1 k h a w hh) ?_)
  rintro e a' w' ⟨af', σ', hh', h'⟩
  cases e with
  | normal =>
    obtain ⟨a0, a1, a2, a3, a4, a5, g0, g1, g2, g3, h3, h4⟩ := h'
    exact ⟨_, _, h4 _ _ hh', h2 a0 a1 a2 a3 a4 a5 g0 g1 g2 g3 h3⟩
  | _ => exact ⟨af', σ', hh', h'⟩
theorem k_loop6_4 {α0 α1 α2 α3 α4 α5 γ0 γ1 γ2 γ3 : Type} (L : Nat → (α0 → α1 → α2 → α3 → α4 → α5 → Option ρ)) (B : (α0 → α1 → α2 → α3 → α4 → α5 → Option ρ) → (α0 → α1 → α2 → α3 → α4 → α5 → Option ρ)) (hz : ∀ a0 a1 a2 a3 a4 a5, L 0 a0 a1 a2 a3 a4 a5 = none) (hs : ∀ m, ∀ a0 a1 a2 a3 a4 a5, L (m + 1) a0 a1 a2 a3 a4 a5 = B (L m) a0 a1 a2 a3 a4 a5) {m0 : Nat} {b0 : α0} {b1 : α1} {b2 : α2} {b3 : α3} {b4 : α4} {b5 : α5} (h : L m0 b0 b1 b2 b3 b4 b5 = some r)
    (I : α0 → α1 → α2 → α3 → α4 → α5 → γ0 → γ1 → γ2 → γ3 → AF) (S : α0 → α1 → α2 → α3 → α4 → α5 → γ0 → γ1 → γ2 → γ3 → Items) (c0 : γ0) (c1 : γ1) (c2 : γ2) (c3 : γ3) (start : Sub E n af σ (I b0 b1 b2 b3 b4 b5 c0 c1 c2 c3) (S b0 b1 b2 b3 b4 b5 c0 c1 c2 c3))
    (round : ∀ rec : (α0 → α1 → α2 → α3 → α4 → α5 → Option ρ), ∀ a0 a1 a2 a3 a4 a5 g0 g1 g2 g3, B rec a0 a1 a2 a3 a4 a5 = some r → awp P E n x (den P E n (kI (fun af' σ' => ∃ a0 a1 a2 a3 a4 a5 g0 g1 g2 g3, rec a0 a1 a2 a3 a4 a5 = some r ∧ Sub E n af' σ' (I a0 a1 a2 a3 a4 a5 g0 g1 g2 g3) (S a0 a1 a2 a3 a4 a5 g0 g1 g2 g3)) :: ks)) (I a0 a1 a2 a3 a4 a5 g0 g1 g2 g3) (S a0 a1 a2 a3 a4 a5 g0 g1 g2 g3)) : awp P E n (.loop x) (den P E n ks) af σ := by
  refine awp_loop (α := Nat × α0 × α1 × α2 × α3 × α4 × α5 × γ0 × γ1 × γ2 × γ3) (fun v => I v.2.1 v.2.2.1 v.2.2.2.1 v.2.2.2.2.1 v.2.2.2.2.2.1 v.2.2.2.2.2.2.1 v.2.2.2.2.2.2.2.1 v.2.2.2.2.2.2.2.2.1 v.2.2.2.2.2.2.2.2.2.1 v.2.2.2.2.2.2.2.2.2.2) (fun v => S v.2.1 v.2.2.1 v.2.2.2.1 v.2.2.2.2.1 v.2.2.2.2.2.1 v.2.2.2.2.2.2.1 v.2.2.2.2.2.2.2.1 v.2.2.2.2.2.2.2.2.1 v.2.2.2.2.2.2.2.2.2.1 v.2.2.2.2.2.2.2.2.2.2) (fun v => L v.1 v.2.1 v.2.2.1 v.2.2.2.1 v.2.2.2.2.1 v.2.2.2.2.2.1 v.2.2.2.2.2.2.1 = some r) (fun v => v.1) (m0, b0, b1, b2, b3, b4, b5, c0, c1, c2, c3) h start (fun v hv => ?_)
  obtain ⟨m, a0, a1, a2, a3, a4, a5, g0, g1, g2, g3⟩ := v
  dsimp only at hv ⊢
  cases m with
  | zero => rw [hz] at hv; cases hv
  | succ m =>
    rw [hs] at hv
    refine awp_mono (round (L m) a0 a1 a2 a3 a4 a5 g0 g1 g2 g3 hv) ?_
    intro e af' σ' h'
    cases e with
    | normal =>
      obtain ⟨a0, a1, a2, a3, a4, a5, g0, g1, g2, g3, h3, h4⟩ := h'
      exact ⟨(m, a0, a1, a2, a3, a4, a5, g0, g1, g2, g3), h3, Nat.lt_succ_self m, h4⟩
    | _ => exact h'
theorem k_join7_0 {α0 α1 α2 α3 α4 α5 α6 : Type} {k : (α0 → α1 → α2 → α3 → α4 → α5 → α6 → Option ρ)} {m : (α0 → α1 → α2 → α3 → α4 → α5 → α6 → Option ρ) → Option ρ} (h : jn k m = some r) (I : α0 → α1 → α2 → α3 → α4 → α5 → α6 → AF) (S : α0 → α1 → α2 → α3 → α4 → α5 → α6 → Items)
    (h1 : ∀ k' : (α0 → α1 → α2 → α3 → α4 → α5 → α6 → Option ρ), m k' = some r → awp P E n x (den P E n (kI (fun af' σ' => ∃ a0 a1 a2 a3 a4 a5 a6, k' a0 a1 a2 a3 a4 a5 a6 = some r ∧ Sub E n af' σ' (I a0 a1 a2 a3 a4 a5 a6) (S a0 a1 a2 a3 a4 a5 a6)) :: ks)) af σ)
    (h2 : ∀ a0 a1 a2 a3 a4 a5 a6, k a0 a1 a2 a3 a4 a5 a6 = some r → awp P E n y (den P E n ks) (I a0 a1 a2 a3 a4 a5 a6) (S a0 a1 a2 a3 a4 a5 a6)) : awp P E n (.seq x y) (den P E n ks) af σ := by
  refine k_seq (fun a w hh => wp_mono (h1 k h a w hh) ?_)
  rintro e a' w' ⟨af', σ', hh', h'⟩
  cases e with
  | normal =>
    obtain ⟨a0, a1, a2, a3, a4, a5, a6, h3, h4⟩ := h'
    exact ⟨_, _, h4 _ _ hh', h2 a0 a1 a2 a3 a4 a5 a6 h3⟩
  | _ => exact ⟨af', σ', hh', h'⟩
theorem k_loop7_0 {α0 α1 α2 α3 α4 α5 α6 : Type} (L : Nat → (α0 → α1 → α2 → α3 → α4 → α5 → α6 → Option ρ)) (B : (α0 → α1 → α2 → α3 → α4 → α5 → α6 → Option ρ) → (α0 → α1 → α2 → α3 → α4 → α5 → α6 → Option ρ)) (hz : ∀ a0 a1 a2 a3 a4 a5 a6, L 0 a0 a1 a2 a3 a4 a5 a6 = none) (hs : ∀ m, ∀ a0 a1 a2 a3 a4 a5 a6, L (m + 1) a0 a1 a2 a3 a4 a5 a6 = B (L m) a0 a1 a2 a3 a4 a5 a6) {m0 : Nat} {b0 : α0} {b1 : α1} {b2 : α2} {b3 : α3} {b4 : α4} {b5 : α5} {b6 : α6} (h : L m0 b0 b1 b2 b3 b4 b5 b6 = some r)
    (I : α0 → α1 → α2 → α3 → α4 → α5 → α6 → AF) (S : α0 → α1 → α2 → α3 → α4 → α5 → α6 → Items) (start : Sub E n af σ (I b0 b1 b2 b3 b4 b5 b6) (S b0 b1 b2 b3 b4 b5 b6))
    (round : ∀ rec : (α0 → α1 → α2 → α3 → α4 → α5 → α6 → Option ρ), ∀ a0 a1 a2 a3 a4 a5 a6, B rec a0 a1 a2 a3 a4 a5 a6 = some r → awp P E n x (den P E n (kI (fun af' σ' => ∃ a0 a1 a2 a3 a4 a5 a6, rec a0 a1 a2 a3 a4 a5 a6 = some r ∧ Sub E n af' σ' (I a0 a1 a2 a3 a4 a5 a6) (S a0 a1 a2 a3 a4 a5 a6)) :: ks)) (I a0 a1 a2 a3 a4 a5 a6) (S a0 a1 a2 a3 a4 a5 a6)) : awp P E n (.loop x) (den P E n ks) af σ := by
  refine awp_loop (α := Nat × α0 × α1 × α2 × α3 × α4 × α5 × α6) (fun v => I v.2.1 v.2.2.1 v.2.2.2.1 v.2.2.2.2.1 v.2.2.2.2.2.1 v.2.2.2.2.2.2.1 v.2.2.2.2.2.2.2) (fun v => S v.2.1 v.2.2.1 v.2.2.2.1 v.2.2.2.2.1 v.2.2.2.2.2.1 v.2.2.2.2.2.2.1 v.2.2.2.2.2.2.2) (fun v => L v.1 v.2.1 v.2.2.1 v.2.2.2.1 v.2.2.2.2.1 v.2.2.2.2.2.1 v.2.2.2.2.2.2.1 v.2.2.2.2.2.2.2 = some r) (fun v => v.1) (m0, b0, b1, b2, b3, b4, b5, b6) h start (fun v hv => ?_)
  obtain ⟨m, a0, a1, a2, a3, a4, a5, a6⟩ := v
  dsimp only at hv ⊢
  cases m with
  | zero => rw [hz] at hv; cases hv
  | succ m =>
    rw [hs] at hv
    refine awp_mono (round (L m) a0 a1 a2 a3 a4 a5 a6 hv) ?_
    intro e af' σ' h'
    cases e with
    | normal =>
      obtain ⟨a0, a1, a2, a3, a4, a5, a6, h3, h4⟩ := h'
      exact ⟨(m, a0, a1, a2, a3, a4, a5, a6), h3, Nat.lt_succ_self m, h4⟩
    | _ => exact h'
theorem k_join7_1 {α0 α1 α2 α3 α4 α5 α6 γ0 : Type} {k : (α0 → α1 → α2 → α3 → α4 → α5 → α6 → Option ρ)} {m : (α0 → α1 → α2 → α3 → α4 → α5 → α6 → Option ρ) → Option ρ} (h : jn k m = some r) (I : α0 → α1 → α2 → α3 → α4 → α5 → α6 → γ0 → AF) (S : α0 → α1 → α2 → α3 → α4 → α5 → α6 → γ0 → Items)
    (h1 : ∀ k' : (α0 → α1 → α2 → α3 → α4 → α5 → α6 → Option ρ), m k' = some r → awp P E n x (den P E n (kI (fun af' σ' => ∃ a0 a1 a2 a3 a4 a5 a6 g0, k' a0 a1 a2 a3 a4 a5 a6 = some r ∧ Sub E n af' σ' (I a0 a1 a2 a3 a4 a5 a6 g0) (S a0 a1 a2 a3 a4 a5 a6 g0)) :: ks)) af σ)
    (h2 : ∀ a0 a1 a2 a3 a4 a5 a6 g0, k a0 a1 a2 a3 a4 a5 a6 = some r → awp P E n y (den P E n ks) (I a0 a1 a2 a3 a4 a5 a6 g0) (S a0 a1 a2 a3 a4 a5 a6 g0)) : awp P E n (.seq x y) (den P E n ks) af σ := by
  refine k_seq (fun a w hh => wp_mono (h1 k h a w hh) ?_)
  rintro e a' w' ⟨af', σ', hh', h'⟩
  cases e with
  | normal =>
    obtain ⟨a0, a1, a2, a3, a4, a5, a6, g0, h3, h4⟩ := h'
    exact ⟨_, _, h4 _ _ hh', h2 a0 a1 a2 a3 a4 a5 a6 g0 h3⟩
  | _ => exact ⟨af', σ', hh', h'⟩
theorem k_loop7_1 {α0 α1 α2 α3 α4 α5 α6 γ0 : Type} (L : Nat → (α0 → α1 → α2 → α3 → α4 → α5 → α6 → Option ρ)) (B : (α0 → α1 → α2 → α3 → α4 → α5 → α6 → Option ρ) → (α0 → α1 → α2 → α3 → α4 → α5 → α6 → Option ρ)) (hz : ∀ a0 a1 a2 a3 a4 a5 a6, L 0 a0 a1 a2 a3 a4 a5 a6 = none) (hs : ∀ m, ∀ a0 a1 a2 a3 a4 a5 a6, L (m + 1) a0 a1 a2 a3 a4 a5 a6 = B (L m) a0 a1 a2 a3 a4 a5 a6) {m0 : Nat} {b0 : α0} {b1 : α1} {b2 : α2} {b3 : α3} {b4 : α4} {b5 : α5} {b6 : α6} (h : L m0 b0 b1 b2 b3 b4 b5 b6 = some r)
    (I : α0 → α1 → α2 → α3 → α4 → α5 → α6 → γ0 → AF) (S : α0 → α1 → α2 → α3 → α4 → α5 → α6 → γ0 → Items) (c0 : γ0) (start : Sub E n af σ (I b0 b1 b2 b3 b4 b5 b6 c0) (S b0 b1 b2 b3 b4 b5 b6 c0))
    (round : ∀ rec : (α0 → α1 → α2 → α3 → α4 → α5 → α6 → Option ρ), ∀ a0 a1 a2 a3 a4 a5 a6 g0, B rec a0 a1 a2 a3 a4 a5 a6 = some r → awp P E n x (den P E n (kI (fun af' σ' => ∃ a0 a1 a2 a3 a4 a5 a6 g0, rec a0 a1 a2 a3 a4 a5 a6 = some r ∧ Sub E n af' σ' (I a0 a1 a2 a3 a4 a5 a6 g0) (S a0 a1 a2 a3 a4 a5 a6 g0)) :: ks)) (I a0 a1 a2 a3 a4 a5 a6 g0) (S a0 a1 a2 a3 a4 a5 a6 g0)) : awp P E n (.loop x) (den P E n ks) af σ := by
  refine awp_loop (α := Nat × α0 × α1 × α2 × α3 × α4 × α5 × α6 × γ0) (fun v => I v.2.1 v.2.2.1 v.2.2.2.1 v.2.2.2.2.1 v.2.2.2.2.2.1 v.2.2.2.2.2.2.1 v.2.2.2.2.2.2.2.1 v.2.2.2.2.2.2.2.2) (fun v => S v.2.1 v.2.2.1 v.2.2.2.1 v.2.2.2.2.1 v.2.2.2.2.2.1 v.2.2.2.2.2.2.1 v.2.2.2.2.2.2.2.1 v.2.2.2.2.2.2.2.2) (fun v => L v.1 v.2.1 v.2.2.1 v.2.2.2.1 v.2.2.2.2.1 v.2.2.2.2.2.1 v.2.2.2.2.2.2.1 v.2.2.2.2.2.2.2.1 = some r) (fun v => v.1) (m0, b0, b1, b2, b3, b4, b5, b6, c0) h start (fun v hv => ?_)
  obtain ⟨m, a0, a1, a2, a3, a4, a5, a6, g0⟩ := v
  dsimp only at hv ⊢
  cases m with
  | zero => rw [hz] at hv; cases hv
  | succ m =>
    rw [hs] at hv
    refine awp_mono (round (L m) a0 a1 a2 a3 a4 a5 a6 g0 hv) ?_
    intro e af' σ' h'
    cases e with
    | normal =>
      obtain ⟨a0, a1, a2, a3, a4, a5, a6, g0, h3, h4⟩ := h'
      exact ⟨(m, a0, a1, a2, a3, a4, a5, a6, g0), h3, Nat.lt_succ_self m, h4⟩
    | _ => exact h'
theorem k_join7_2 {α0 α1 α2 α3 α4 α5 α6 γ0 γ1 : Type} {k : (α0 → α1 → α2 → α3 → α4 → α5 → α6 → Option ρ)} {m : (α0 → α1 → α2 → α3 → α4 → α5 → α6 → Option ρ) → Option ρ} (h : jn k m = some r) (I : α0 → α1 → α2 → α3 → α4 → α5 → α6 → γ0 → γ1 → AF) (S : α0 → α1 → α2 → α3 → α4 → α5 → α6 → γ0 → γ1 → Items)
    (h1 : ∀ k' : (α0 → α1 → α2 → α3 → α4 → α5 → α6 → Option ρ), m k' = some r → awp P E n x (den P E n (kI (fun af' σ' => ∃ a0 a1 a2 a3 a4 a5 a6 g0 g1, k' a0 a1 a2 a3 a4 a5 a6 = some r ∧ Sub E n af' σ' (I a0 a1 a2 a3 a4 a5 a6 g0 g1) (S a0 a1 a2 a3 a4 a5 a6 g0 g1)) :: ks)) af σ)
    (h2 : ∀ a0 a1 a2 a3 a4 a5 a6 g0 g1, k a0 a1 a2 a3 a4 a5 a6 = some r → awp P E n y (den P E n ks) (I a0 a1 a2 a3 a4 a5 a6 g0 g1) (S a0 a1 a2 a3 a4 a5 a6 g0 g1)) : awp P E n (.seq x y) (den P E n ks) af σ := by
  refine k_seq (fun a w hh => wp_mono (h1 k h a w hh) ?_)
  rintro e a' w' ⟨af', σ', hh', h'⟩
  cases e with
  | normal =>
    obtain ⟨a0, a1, a2, a3, a4, a5, a6, g0, g1, h3, h4⟩ := h'
    exact ⟨_, _, h4 _ _ hh', h2 a0 a1 a2 a3 a4 a5 a6 g0 g1 h3⟩
  | _ => exact ⟨af', σ', hh', h'⟩
theorem k_loop7_2 {α0 α1 α2 α3 α4 α5 α6 γ0 γ1 : Type} (L : Nat → (α0 → α1 → α2 → α3 → α4 → α5 → α6 → Option ρ)) (B : (α0 → α1 → α2 → α3 → α4 → α5 → α6 → Option ρ) → (α0 → α1 → α2 → α3 → α4 → α5 → α6 → Option ρ)) (hz : ∀ a0 a1 a2 a3 a4 a5 a6, L 0 a0 a1 a2 a3 a4 a5 a6 = none) (hs : ∀ m, ∀ a0 a1 a2 a3 a4 a5 a6, L (m + 1) a0 a1 a2 a3 a4 a5 a6 = B (L m) a0 a1 a2 a3 a4 a5 a6) {m0 : Nat} {b0 : α0} {b1 : α1} {b2 : α2} {b3 : α3} {b4 : α4} {b5 : α5} {b6 : α6} (h : L m0 b0 b1 b2 b3 b4 b5 b6 = some r)
    (I : α0 → α1 → α2 → α3 → α4 → α5 → α6 → γ0 → γ1 → AF) (S : α0 → α1 → α2 → α3 → α4 → α5 → α6 → γ0 → γ1 → Items) (c0 : γ0) (c1 : γ1) (start : Sub E n af σ (I b0 b1 b2 b3 b4 b5 b6 c0 c1) (S b0 b1 b2 b3 b4 b5 b6 c0 c1))
    (round : ∀ rec : (α0 → α1 → α2 → α3 → α4 → α5 → α6 → Option ρ), ∀ a0 a1 a2 a3 a4 a5 a6 g0 g1, B rec a0 a1 a2 a3 a4 a5 a6 = some r → awp P E n x (den P E n (kI (fun af' σ' => ∃ a0 a1 a2 a3 a4 a5 a6 g0 g1, rec a0 a1 a2 a3 a4 a5 a6 = some r ∧ Sub E n af' σ' (I a0 a1 a2 a3 a4 a5 a6 g0 g1) (S a0 a1 a2 a3 a4 a5 a6 g0 g1)) :: ks)) (I a0 a1 a2 a3 a4 a5 a6 g0 g1) (S a0 a1 a2 a3 a4 a5 a6 g0 g1)) : awp P E n (.loop x) (den P E n ks) af σ := by
  refine awp_loop (α := Nat × α0 × α1 × α2 × α3 × α4 × α5 × α6 × γ0 × γ1) (fun v => I v.2.1 v.2.2.1 v.2.2.2.1 v.2.2.2.2.1 v.2.2.2.2.2.1 v.2.2.2.2.2.2.1 v.2.2.2.2.2.2.2.1 v.2.2.2.2.2.2.2.2.1 v.2.2.2.2.2.2.2.2.2) (fun v => S v.2.1 v.2.2.1 v.2.2.2.1 v.2.2.2.2.1 v.2.2.2.2.2.1 v.2.2.2.2.2.2.1 v.2.2.2.2.2.2.2.1 v.2.2.2.2.2.2.2.2.1 v.2.2.2.2.2.2.2.2.2) (fun v => L v.1 v.2.1 v.2.2.1 v.2.2.2.1 v.2.2.2.2.1 v.2.2.2.2.2.1 v.2.2.2.2.2.2.1 v.2.2.2.2.2.2.2.1 = some r) (fun v => v.1) (m0, b0, b1, b2, b3, b4, b5, b6, c0, c1) h start (fun v hv => ?_)
  obtain ⟨m, a0, a1, a2, a3, a4, a5, a6, g0, g1⟩ := v
  dsimp only at hv ⊢
  cases m with
  | zero => rw [hz] at hv; cases hv
  | succ m =>
    rw [hs] at hv
    refine awp_mono (round (L m) a0 a1 a2 a3 a4 a5 a6 g0 g1 hv) ?_
    intro e af' σ' h'
    cases e with
    | normal =>
      obtain ⟨a0, a1, a2, a3, a4, a5, a6, g0, g1, h3, h4⟩ := h'
      exact ⟨(m, a0, a1, a2, a3, a4, a5, a6, g0, g1), h3, Nat.lt_succ_self m, h4⟩
    | _ => exact h'
theorem k_join7_3 {α0 α1 α2 α3 α4 α5 α6 γ0 γ1 γ2 : Type} {k : (α0 → α1 → α2 → α3 → α4 → α5 → α6 → Option ρ)} {m : (α0 → α1 → α2 → α3 → α4 → α5 → α6 → Option ρ) → Option ρ} (h : jn k m = some r) (I : α0 → α1 → α2 → α3 → α4 → α5 → α6 → γ0 → γ1 → γ2 → AF) (S : α0 → α1 → α2 → α3 → α4 → α5 → α6 → γ0 → γ1 → γ2 → Items)
    (h1 : ∀ k' : (α0 → α1 → α2 → α3 → α4 → α5 → α6 → Option ρ), m k' = some r → awp P E n x (den P E n (kI (fun af' σ' => ∃ a0 a1 a2 a3 a4 a5 a6 g0 g1 g2, k' a0 a1 a2 a3 a4 a5 a6 = some r ∧ Sub E n af' σ' (I a0 a1 a2 a3 a4 a5 a6 g0 g1 g2) (S a0 a1 a2 a3 a4 a5 a6 g0 g1 g2)) :: ks)) af σ)
    (h2 : ∀ a0 a1 a2 a3 a4 a5 a6 g0 g1 g2, k a0 a1 a2 a3 a4 a5 a6 = some r → awp P E n y (den P E n ks) (I a0 a1 a2 a3 a4 a5 a6 g0 g1 g2) (S a0 a1 a2 a3 a4 a5 a6 g0 g1 g2)) : awp P E n (.seq x y) (den P E n ks) af σ := by
  refine k_seq (fun a w hh => wp_mono (h1 k h a w hh) ?_)
  rintro e a' w' ⟨af', σ', hh', h'⟩
  cases e with
  | normal =>
    obtain ⟨a0, a1, a2, a3, a4, a5, a6, g0, g1, g2, h3, h4⟩ := h'
    exact ⟨_, _, h4 _ _ hh', h2 a0 a1 a2 a3 a4 a5 a6 g0 g1 g2 h3⟩
  | _ => exact ⟨af', σ', hh', h'⟩
theorem k_loop7_3 {α0 α1 α2 α3 α4 α5 α6 γ0 γ1 γ2 : Type} (L : Nat → (α0 → α1 → α2 → α3 → α4 → α5 → α6 → Option ρ)) (B : (α0 → α1 → α2 → α3 → α4 → α5 → α6 → Option ρ) → (α0 → α1 → α2 → α3 → α4 → α5 → α6 → Option ρ)) (hz : ∀ a0 a1 a2 a3 a4 a5 a6, L 0 a0 a1 a2 a3 a4 a5 a6 = none) (hs : ∀ m, ∀ a0 a1 a2 a3 a4 a5 a6, L (m + 1) a0 a1 a2 a3 a4 a5 a6 = B (L m) a0 a1 a2 a3 a4 a5 a6) {m0 : Nat} {b0 : α0} {b1 : α1} {b2 : α2} {b3 : α3} {b4 : α4} {b5 : α5} {b6 : α6} (h : L m0 b0 b1 b2 b3 b4 b5 b6 = some r)
    (I : α0 → α1 → α2 → α3 → α4 → α5 → α6 → γ0 → γ1 → γ2 → AF) (S : α0 → α1 → α2 → α3 → α4 → α5 → α6 → γ0 → γ1 → γ2 → Items) (c0 : γ0) (c1 : γ1) (c2 : γ2) (start : Sub E n af σ (I b0 b1 b2 b3 b4 b5 b6 c0 c1 c2) (S b0 b1 b2 b3 b4 b5 b6 c0 c1 c2))
    (round : ∀ rec : (α0 → α1 → α2 → α3 → α4 → α5 → α6 → Option ρ), ∀ a0 a1 a2 a3 a4 a5 a6 g0 g1 g2, B rec a0 a1 a2 a3 a4 a5 a6 = some r → awp P E n x (den P E n (kI (fun af' σ' => ∃ a0 a1 a2 a3 a4 a5 a6 g0 g1 g2, rec a0 a1 a2 a3 a4 a5 a6 = some r ∧ Sub E n af' σ' (I a0 a1 a2 a3 a4 a5 a6 g0 g1 g2) (S a0 a1 a2 a3 a4 a5 a6 g0 g1 g2)) :: ks)) (I a0 a1 a2 a3 a4 a5 a6 g0 g1 g2) (S a0 a1 a2 a3 a4 a5 a6 g0 g1 g2)) : awp P E n (.loop x) (den P E n ks) af σ := by
  refine awp_loop (α := Nat × α0 × α1 × α2 × α3 × α4 × α5 × α6 × γ0 × γ1 × γ2) (fun v => I v.2.1 v.2.2.1 v.2.2.2.1 v.2.2.2.2.1 v.2.2.2.2.2.1 v.2.2.2.2.2.2.1 v.2.2.2.2.2.2.2.1 v.2.2.2.2.2.2.2.2.1 v.2.2.2.2.2.2.2.2.2.1 v.2.2.2.2.2.2.2.2.2.2) (fun v => S v.2.1 v.2.2.1 v.2.2.2.1 v.2.2.2.2.1 v.2.2.2.2.2.1 v.2.2.2.2.2.2.1 v.2.2.2.2.2.2.2.1 v.2.2.2.2.2.2.2.2.1 v.2.2.2.2.2.2.2.2.2.1 v.2.2.2.2.2.2.2.2.2.2) (fun v => L v.1 v.2.1 v.2.2.1 v.2.2.2.1 v.2.2.2.2.1 v.2.2.2.2.2.1 v.2.2.2.2.2.2.1 v.2.2.2.2.2.2.2.1 = some r) (fun v => v.1) (m0, b0, b1, b2, b3, b4, b5, b6, c0, c1, c2) h start (fun v hv => ?_)
  obtain ⟨m, a0, a1, a2, a3, a4, a5, a6, g0, g1, g2⟩ := v
  dsimp only at hv ⊢
  cases m with
  | zero => rw [hz] at hv; cases hv
  | succ m =>
    rw [hs] at hv
    refine awp_mono (round (L m) a0 a1 a2 a3 a4 a5 a6 g0 g1 g2 hv) ?_
    intro e af' σ' h'
    cases e with
    | normal =>
      obtain ⟨a0, a1, a2, a3, a4, a5, a6, g0, g1, g2, h3, h4⟩ := h'
      exact ⟨(m, a0, a1, a2, a3, a4, a5, a6, g0, g1, g2), h3, Nat.lt_succ_self m, h4⟩
    | _ => exact h'
theorem k_join7_4 {α0 α1 α2 α3 α4 α5 α6 γ0 γ1 γ2 γ3 : Type} {k : (α0 → α1 → α2 → α3 → α4 → α5 → α6 → Option ρ)} {m : (α0 → α1 → α2 → α3 → α4 → α5 → α6 → Option ρ) → Option ρ} (h : jn k m = some r) (I : α0 → α1 → α2 → α3 → α4 → α5 → α6 → γ0 → γ1 → γ2 → γ3 → AF) (S : α0 → α1 → α2 → α3 → α4 → α5 → α6 → γ0 → γ1 → γ2 → γ3 → Items)
    (h1 : ∀ k' : (α0 → α1 → α2 → α3 → α4 → α5 → α6 → Option ρ), m k' = some r → awp P E n x (den P E n (kI (fun af' σ' => ∃ a0 a1 a2 a3 a4 a5 a6 g0 g1 g2 g3, k' a0 a1 a2 a3 a4 a5 a6 = some r ∧ Sub E n af' σ' (I a0 a1 a2 a3 a4 a5 a6 g0 g1 g2 g3) (S a0 a1 a2 a3 a4 a5 a6 g0 g1 g2 g3)) :: ks)) af σ)
    (h2 : ∀ a0 a1 a2 a3 a4 a5 a6 g0 g1 g2 g3, k a0 a1 a2 a3 a4 a5 a6 = some r → awp P E n y (den P E n ks) (I a0 a1 a2 a3 a4 a5 a6 g0 g1 g2 g3) (S a0 a1 a2 a3 a4 a5 a6 g0 g1 g2 g3)) : awp P E n (.seq x y) (den P E n ks) af σ := by
  refine k_seq (fun a w hh => wp_mono (h1 k h a w hh) ?_)
  rintro e a' w' ⟨af', σ', hh', h'⟩
  cases e with
  | normal =>
    obtain ⟨a0, a1, a2, a3, a4, a5, a6, g0, g1, g2, g3, h3, h4⟩ := h'
    exact ⟨_, _, h4 _ _ hh', h2 a0 a1 a2 a3 a4 a5 a6 g0 g1 g2 g3 h3⟩
  | _ => exact ⟨af', σ', hh', h'⟩
theorem k_loop7_4 {α0 α1 α2 α3 α4 α5 α6 γ0 γ1 γ2 γ3 : Type} (L : Nat → (α0 → α1 → α2 → α3 → α4 → α5 → α6 → Option ρ)) (B : (α0 → α1 → α2 → α3 → α4 → α5 → α6 → Option ρ) → (α0 → α1 → α2 → α3 → α4 → α5 → α6 → Option ρ)) (hz : ∀ a0 a1 a2 a3 a4 a5 a6, L 0 a0 a1 a2 a3 a4 a5 a6 = none) (hs : ∀ m, ∀ a0 a1 a2 a3 a4 a5 a6, L (m + 1) a0 a1 a2 a3 a4 a5 a6 = B (L m) a0 a1 a2 a3 a4 a5 a6) {m0 : Nat} {b0 : α0} {b1 : α1} {b2 : α2} {b3 : α3} {b4 : α4} {b5 : α5} {b6 : α6} (h : L m0 b0 b1 b2 b3 b4 b5 b6 = some r)
    (I : α0 → α1 → α2 → α3 → α4 → α5 → α6 → γ0 → γ1 → γ2 → γ3 → AF) (S : α0 → α1 → α2 → α3 → α4 → α5 → α6 → γ0 → γ1 → γ2 → γ3 → Items) (c0 : γ0) (c1 : γ1) (c2 : γ2) (c3 : γ3) (start : Sub E n af σ (I b0 b1 b2 b3 b4 b5 b6 c0 c1 c2 c3) (S b0 b1 b2 b3 b4 b5 b6 c0 c1 c2 c3))
    (round : ∀ rec : (α0 → α1 → α2 → α3 → α4 → α5 → α6 → Option ρ), ∀ a0 a1 a2 a3 a4 a5 a6 g0 g1 g2 g3, B rec a0 a1 a2 a3 a4 a5 a6 = some r → awp P E n x (den P E n (kI (fun af' σ' => ∃ a0 a1 a2 a3 a4 a5 a6 g0 g1 g2 g3, rec a0 a1 a2 a3 a4 a5 a6 = some r ∧ Sub E n af' σ' (I a0 a1 a2 a3 a4 a5 a6 g0 g1 g2 g3) (S a0 a1 a2 a3 a4 a5 a6 g0 g1 g2 g3)) :: ks)) (I a0 a1 a2 a3 a4 a5 a6 g0 g1 g2 g3) (S a0 a1 a2 a3 a4 a5 a6 g0 g1 g2 g3)) : awp P E n (.loop x) (den P E n ks) af σ := by
  refine awp_loop (α := Nat × α0 × α1 × α2 × α3 × α4 × α5 × α6 × γ0 × γ1 × γ2 × γ3) (fun v => I v.2.1 v.2.2.1 v.2.2.2.1 v.2.2.2.2.1 v.2.2.2.2.2.1 v.2.2.2.2.2.2.1 v.2.2.2.2.2.2.2.1 v.2.2.2.2.2.2.2.2.1 v.2.2.2.2.2.2.2.2.2.1 v.2.2.2.2.2.2.2.2.2.2.1 v.2.2.2.2.2.2.2.2.2.2.2) (fun v => S v.2.1 v.2.2.1 v.2.2.2.1 v.2.2.2.2.1 v.2.2.2.2.2.1 v.2.2.2.2.2.2.1 v.2.2.2.2.2.2.2.1 v.2.2.2.2.2.2.2.2.1 v.2.2.2.2.2.2.2.2.2.1 v.2.2.2.2.2.2.2.2.2.2.1 v.2.2.2.2.2.2.2.2.2.2.2) (fun v => L v.1 v.2.1 v.2.2.1 v.2.2.2.1 v.2.2.2.2.1 v.2.2.2.2.2.1 v.2.2.2.2.2.2.1 v.2.2.2.2.2.2.2.1 = some r) (fun v => v.1) (m0, b0, b1, b2, b3, b4, b5, b6, c0, c1, c2, c3) h start (fun v hv => ?_)
  obtain ⟨m, a0, a1, a2, a3, a4, a5, a6, g0, g1, g2, g3⟩ := v
  dsimp only at hv ⊢
  cases m with
  | zero => rw [hz] at hv; cases hv
  | succ m =>
    rw [hs] at hv
    refine awp_mono (round (L m) a0 a1 a2 a3 a4 a5 a6 g0 g1 g2 g3 hv) ?_
    intro e af' σ' h'
    cases e with
    | normal =>
      obtain ⟨a0, a1, a2, a3, a4, a5, a6, g0, g1, g2, g3, h3, h4⟩ := h'
      exact ⟨(m, a0, a1, a2, a3, a4, a5, a6, g0, g1, g2, g3), h3, Nat.lt_succ_self m, h4⟩
    | _ => exact h'
theorem k_join8_0 {α0 α1 α2 α3 α4 α5 α6 α7 : Type} {k : (α0 → α1 → α2 → α3 → α4 → α5 → α6 → α7 → Option ρ)} {m : (α0 → α1 → α2 → α3 → α4 → α5 → α6 → α7 → Option ρ) → Option ρ} (h : jn k m = some r) (I : α0 → α1 → α2 → α3 → α4 → α5 → α6 → α7 → AF) (S : α0 → α1 → α2 → α3 → α4 → α5 → α6 → α7 → Items)
    (h1 : ∀ k' : (α0 → α1 → α2 → α3 → α4 → α5 → α6 → α7 → Option ρ), m k' = some r → awp P E n x (den P E n (kI (fun af' σ' => ∃ a0 a1 a2 a3 a4 a5 a6 a7, k' a0 a1 a2 a3 a4 a5 a6 a7 = some r ∧ Sub E n af' σ' (I a0 a1 a2 a3 a4 a5 a6 a7) (S a0 a1 a2 a3 a4 a5 a6 a7)) :: ks)) af σ)
    (h2 : ∀ a0 a1 a2 a3 a4 a5 a6 a7, k a0 a1 a2 a3 a4 a5 a6 a7 = some r → awp P E n y (den P E n ks) (I a0 a1 a2 a3 a4 a5 a6 a7) (S a0 a1 a2 a3 a4 a5 a6 a7)) : awp P E n (.seq x y) (den P E n ks) af σ := by
  refine k_seq (fun a w hh => wp_mono (h1 k h a w hh) ?_)
  rintro e a' w' ⟨af', σ', hh', h'⟩
  cases e with
  | normal =>
    obtain ⟨a0, a1, a2, a3, a4, a5, a6, a7, h3, h4⟩ := h'
    exact ⟨_, _, h4 _ _ hh', h2 a0 a1 a2 a3 a4 a5 a6 a7 h3⟩
  | _ => exact ⟨af', σ', hh', h'⟩
theorem k_loop8_0 {α0 α1 α2 α3 α4 α5 α6 α7 : Type} (L : Nat → (α0 → α1 → α2 → α3 → α4 → α5 → α6 → α7 → Option ρ)) (B : (α0 → α1 → α2 → α3 → α4 → α5 → α6 → α7 → Option ρ) → (α0 → α1 → α2 → α3 → α4 → α5 → α6 → α7 → Option ρ)) (hz : ∀ a0 a1 a2 a3 a4 a5 a6 a7, L 0 a0 a1 a2 a3 a4 a5 a6 a7 = none) (hs : ∀ m, ∀ a0 a1 a2 a3 a4 a5 a6 a7, L (m + 1) a0 a1 a2 a3 a4 a5 a6 a7 = B (L m) a0 a1 a2 a3 a4 a5 a6 a7) {m0 : Nat} {b0 : α0} {b1 : α1} {b2 : α2} {b3 : α3} {b4 : α4} {b5 : α5} {b6 : α6} {b7 : α7} (h : L m0 b0 b1 b2 b3 b4 b5 b6 b7 = some r)
    (I : α0 → α1 → α2 → α3 → α4 → α5 → α6 → α7 → AF) (S : α0 → α1 → α2 → α3 → α4 → α5 → α6 → α7 → Items) (start : Sub E n af σ (I b0 b1 b2 b3 b4 b5 b6 b7) (S b0 b1 b2 b3 b4 b5 b6 b7))
    (round : ∀ rec : (α0 → α1 → α2 → α3 → α4 → α5 → α6 → α7 → Option ρ), ∀ a0 a1 a2 a3 a4 a5 a6 a7, B rec a0 a1 a2 a3 a4 a5 a6 a7 = some r → awp P E n x (den P E n (kI (fun af' σ' => ∃ a0 a1 a2 a3 a4 a5 a6 a7, rec a0 a1 a2 a3 a4 a5 a6 a7 = some r ∧ Sub E n af' σ' (I a0 a1 a2 a3 a4 a5 a6 a7) (S a0 a1 a2 a3 a4 a5 a6 a7)) :: ks)) (I a0 a1 a2 a3 a4 a5 a6 a7) (S a0 a1 a2 a3 a4 a5 a6 a7)) : awp P E n (.loop x) (den P E n ks) af σ := by
  refine awp_loop (α := Nat × α0 × α1 × α2 × α3 × α4 × α5 × α6 × α7) (fun v => I v.2.1 v.2.2.1 v.2.2.2.1 v.2.2.2.2.1 v.2.2.2.2.2.1 v.2.2.2.2.2.2.1 v.2.2.2.2.2.2.2.1 v.2.2.2.2.2.2.2.2) (fun v => S v.2.1 v.2.2.1 v.2.2.2.1 v.2.2.2.2.1 v.2.2.2.2.2.1 v.2.2.2.2.2.2.1 v.2.2.2.2.2.2.2.1 v.2.2.2.2.2.2.2.2) (fun v => L v.1 v.2.1 v.2.2.1 v.2.2.2.1 v.2.2.2.2.1 v.2.2.2.2.2.1 v.2.2.2.2.2.2.1 v.2.2.2.2.2.2.2.1 v.2.2.2.2.2.2.2.2 = some r) (fun v => v.1) (m0, b0, b1, b2, b3, b4, b5, b6, b7) h start (fun v hv => ?_)
  obtain ⟨m, a0, a1, a2, a3, a4, a5, a6, a7⟩ := v
  dsimp only at hv ⊢
  cases m with
  | zero => rw [hz] at hv; cases hv
  | succ m =>
    rw [hs] at hv
    refine awp_mono (round (L m) a0 a1 a2 a3 a4 a5 a6 a7 hv) ?_
    intro e af' σ' h'
    cases e with
    | normal =>
      obtain ⟨a0, a1, a2, a3, a4, a5, a6, a7, h3, h4⟩ := h'
      exact ⟨(m, a0, a1, a2, a3, a4, a5, a6, a7), h3, Nat.lt_succ_self m, h4⟩
    | _ => exact h'
theorem k_join8_1 {α0 α1 α2 α3 α4 α5 α6 α7 γ0 : Type} {k : (α0 → α1 → α2 → α3 → α4 → α5 → α6 → α7 → Option ρ)} {m : (α0 → α1 → α2 → α3 → α4 → α5 → α6 → α7 → Option ρ) → Option ρ} (h : jn k m = some r) (I : α0 → α1 → α2 → α3 → α4 → α5 → α6 → α7 → γ0 → AF) (S : α0 → α1 → α2 → α3 → α4 → α5 → α6 → α7 → γ0 → Items)
    (h1 : ∀ k' : (α0 → α1 → α2 → α3 → α4 → α5 → α6 → α7 → Option ρ), m k' = some r → awp P E n x (den P E n (kI (fun af' σ' => ∃ a0 a1 a2 a3 a4 a5 a6 a7 g0, k' a0 a1 a2 a3 a4 a5 a6 a7 = some r ∧ Sub E n af' σ' (I a0 a1 a2 a3 a4 a5 a6 a7 g0) (S a0 a1 a2 a3 a4 a5 a6 a7 g0)) :: ks)) af σ)
    (h2 : ∀ a0 a1 a2 a3 a4 a5 a6 a7 g0, k a0 a1 a2 a3 a4 a5 a6 a7 = some r → awp P E n y (den P E n ks) (I a0 a1 a2 a3 a4 a5 a6 a7 g0) (S a0 a1 a2 a3 a4 a5 a6 a7 g0)) : awp P E n (.seq x y) (den P E n ks) af σ := by
  refine k_seq (fun a w hh => wp_mono (h1 k h a w hh) ?_)
  rintro e a' w' ⟨af', σ', hh', h'⟩
  cases e with
  | normal =>
    obtain ⟨a0, a1, a2, a3, a4, a5, a6, a7, g0, h3, h4⟩ := h'
    exact ⟨_, _, h4 _ _ hh', h2 a0 a1 a2 a3 a4 a5 a6 a7 g0 h3⟩
  | _ => exact ⟨af', σ', hh', h'⟩
theorem k_loop8_1 {α0 α1 α2 α3 α4 α5 α6 α7 γ0 : Type} (L : Nat → (α0 → α1 → α2 → α3 → α4 → α5 → α6 → α7 → Option ρ)) (B : (α0 → α1 → α2 → α3 → α4 → α5 → α6 → α7 → Option ρ) → (α0 → α1 → α2 → α3 → α4 → α5 → α6 → α7 → Option ρ)) (hz : ∀ a0 a1 a2 a3 a4 a5 a6 a7, L 0 a0 a1 a2 a3 a4 a5 a6 a7 = none) (hs : ∀ m, ∀ a0 a1 a2 a3 a4 a5 a6 a7, L (m + 1) a0 a1 a2 a3 a4 a5 a6 a7 = B (L m) a0 a1 a2 a3 a4 a5 a6 a7) {m0 : Nat} {b0 : α0} {b1 : α1} {b2 : α2} {b3 : α3} {b4 : α4} {b5 : α5} {b6 : α6} {b7 : α7} (h : L m0 b0 b1 b2 b3 b4 b5 b6 b7 = some r)
    (I : α0 → α1 → α2 → α3 → α4 → α5 → α6 → α7 → γ0 → AF) (S : α0 → α1 → α2 → α3 → α4 → α5 → α6 → α7 → γ0 → Items) (c0 : γ0) (start : Sub E n af σ (I b0 b1 b2 b3 b4 b5 b6 b7 c0) (S b0 b1 b2 b3 b4 b5 b6 b7 c0))
    (round : ∀ rec : (α0 → α1 → α2 → α3 → α4 → α5 → α6 → α7 → Option ρ), ∀ a0 a1 a2 a3 a4 a5 a6 a7 g0, B rec a0 a1 a2 a3 a4 a5 a6 a7 = some r → awp P E n x (den P E n (kI (fun af' σ' => ∃ a0 a1 a2 a3 a4 a5 a6 a7 g0, rec a0 a1 a2 a3 a4 a5 a6 a7 = some r ∧ Sub E n af' σ' (I a0 a1 a2 a3 a4 a5 a6 a7 g0) (S a0 a1 a2 a3 a4 a5 a6 a7 g0)) :: ks)) (I a0 a1 a2 a3 a4 a5 a6 a7 g0) (S a0 a1 a2 a3 a4 a5 a6 a7 g0)) : awp P E n (.loop x) (den P E n ks) af σ := by
  refine awp_loop (α := Nat × α0 × α1 × α2 × α3 × α4 × α5 × α6 × α7 × γ0) (fun v => I v.2.1 v.2.2.1 v.2.2.2.1 v.2.2.2.2.1 v.2.2.2.2.2.1 v.2.2.2.2.2.2.1 v.2.2.2.2.2.2.2.1 v.2.2.2.2.2.2.2.2.1 v.2.2.2.2.2.2.2.2.2) (fun v => S v.2.1 v.2.2.1 v.2.2.2.1 v.2.2.2.2.1 v.2.2.2.2.2.1 v.2.2.2.2.2.2.1 v.2.2.2.2.2.2.2.1 v.2.2.2.2.2.2.2.2.1 v.2.2.2.2.2.2.2.2.2) (fun v => L v.1 v.2.1 v.2.2.1 v.2.2.2.1 v.2.2.2.2.1 v.2.2.2.2.2.1 v.2.2.2.2.2.2.1 v.2.2.2.2.2.2.2.1 v.2.2.2.2.2.2.2.2.1 = some r) (fun v => v.1) (m0, b0, b1, b2, b3, b4, b5, b6, b7, c0) h start (fun v hv => ?_)
  obtain ⟨m, a0, a1, a2, a3, a4, a5, a6, a7, g0⟩ := v
  dsimp only at hv ⊢
  cases m with
  | zero => rw [hz] at hv; cases hv
  | succ m =>
    rw [hs] at hv
    refine awp_mono (round (L m) a0 a1 a2 a3 a4 a5 a6 a7 g0 hv) ?_
    intro e af' σ' h'
    cases e with
    | normal =>
      obtain ⟨a0, a1, a2, a3, a4, a5, a6, a7, g0, h3, h4⟩ := h'
      exact ⟨(m, a0, a1, a2, a3, a4, a5, a6, a7, g0), h3, Nat.lt_succ_self m, h4⟩
    | _ => exact h'
theorem k_join8_2 {α0 α1 α2 α3 α4 α5 α6 α7 γ0 γ1 : Type} {k : (α0 → α1 → α2 → α3 → α4 → α5 → α6 → α7 → Option ρ)} {m : (α0 → α1 → α2 → α3 → α4 → α5 → α6 → α7 → Option ρ) → Option ρ} (h : jn k m = some r) (I : α0 → α1 → α2 → α3 → α4 → α5 → α6 → α7 → γ0 → γ1 → AF) (S : α0 → α1 → α2 → α3 → α4 → α5 → α6 → α7 → γ0 → γ1 → Items)
    (h1 : ∀ k' : (α0 → α1 → α2 → α3 → α4 → α5 → α6 → α7 → Option ρ), m k' = some r → awp P E n x (den P E n (kI (fun af' σ' => ∃ a0 a1 a2 a3 a4 a5 a6 a7 g0 g1, k' a0 a1 a2 a3 a4 a5 a6 a7 = some r ∧ Sub E n af' σ' (I a0 a1 a2 a3 a4 a5 a6 a7 g0 g1) (S a0 a1 a2 a3 a4 a5 a6 a7 g0 g1)) :: ks)) af σ)
    (h2 : ∀ a0 a1 a2 a3 a4 a5 a6 a7 g0 g1, k a0 a1 a2 a3 a4 a5 a6 a7 = some r → awp P E n y (den P E n ks) (I a0 a1 a2 a3 a4 a5 a6 a7 g0 g1) (S a0 a1 a2 a3 a4 a5 a6 a7 g0 g1)) : awp P E n (.seq x y) (den P E n ks) af σ := by
  refine k_seq (fun a w hh => wp_mono (h1 k h a w hh) ?_)
  rintro e a' w' ⟨af', σ', hh', h'⟩
  cases e with
  | normal =>
    obtain ⟨a0, a1, a2, a3, a4, a5, a6, a7, g0, g1, h3, h4⟩ := h'
    exact ⟨_, _, h4 _ _ hh', h2 a0 a1 a2 a3 a4 a5 a6 a7 g0 g1 h3⟩
  | _ => exact ⟨af', σ', hh', h'⟩
theorem k_loop8_2 {α0 α1 α2 α3 α4 α5 α6 α7 γ0 γ1 : Type} (L : Nat → (α0 → α1 → α2 → α3 → α4 → α5 → α6 → α7 → Option ρ)) (B : (α0 → α1 → α2 → α3 → α4 → α5 → α6 → α7 → Option ρ) → (α0 → α1 → α2 → α3 → α4 → α5 → α6 → α7 → Option ρ)) (hz : ∀ a0 a1 a2 a3 a4 a5 a6 a7, L 0 a0 a1 a2 a3 a4 a5 a6 a7 = none) (hs : ∀ m, ∀ a0 a1 a2 a3 a4 a5 a6 a7, L (m + 1) a0 a1 a2 a3 a4 a5 a6 a7 = B (L m) a0 a1 a2 a3 a4 a5 a6 a7) {m0 : Nat} {b0 : α0} {b1 : α1} {b2 : α2} {b3 : α3} {b4 : α4} {b5 : α5} {b6 : α6} {b7 : α7} (h : L m0 b0 b1 b2 b3 b4 b5 b6 b7 = some r)
    (I : α0 → α1 → α2 → α3 → α4 → α5 → α6 → α7 → γ0 → γ1 → AF) (S : α0 → α1 → α2 → α3 → α4 → α5 → α6 → α7 → γ0 → γ1 → Items) (c0 : γ0) (c1 : γ1) (start : Sub E n af σ (I b0 b1 b2 b3 b4 b5 b6 b7 c0 c1) (S b0 b1 b2 b3 b4 b5 b6 b7 c0 c1))
    (round : ∀ rec : (α0 → α1 → α2 → α3 → α4 → α5 → α6 → α7 → Option ρ), ∀ a0 a1 a2 a3 a4 a5 a6 a7 g0 g1, B rec a0 a1 a2 a3 a4 a5 a6 a7 = some r → awp P E n x (den P E n (kI (fun af' σ' => ∃ a0 a1 a2 a3 a4 a5 a6 a7 g0 g1, rec a0 a1 a2 a3 a4 a5 a6 a7 = some r ∧ Sub E n af' σ' (I a0 a1 a2 a3 a4 a5 a6 a7 g0 g1) (S a0 a1 a2 a3 a4 a5 a6 a7 g0 g1)) :: ks)) (I a0 a1 a2 a3 a4 a5 a6 a7 g0 g1) (S a0 a1 a2 a3 a4 a5 a6 a7 g0 g1)) : awp P E n (.loop x) (den P E n ks) af σ := by
  refine awp_loop (α := Nat × α0 × α1 × α2 × α3 × α4 × α5 × α6 × α7 × γ0 × γ1) (fun v => I v.2.1 v.2.2.1 v.2.2.2.1 v.2.2.2.2.1 v.2.2.2.2.2.1 v.2.2.2.2.2.2.1 v.2.2.2.2.2.2.2.1 v.2.2.2.2.2.2.2.2.1 v.2.2.2.2.2.2.2.2.2.1 v.2.2.2.2.2.2.2.2.2.2) (fun v => S v.2.1 v.2.2.1 v.2.2.2.1 v.2.2.2.2.1 v.2.2.2.2.2.1 v.2.2.2.2.2.2.1 v.2.2.2.2.2.2.2.1 v.2.2.2.2.2.2.2.2.1 v.2.2.2.2.2.2.2.2.2.1 v.2.2.2.2.2.2.2.2.2.2) (fun v => L v.1 v.2.1 v.2.2.1 v.2.2.2.1 v.2.2.2.2.1 v.2.2.2.2.2.1 v.2.2.2.2.2.2.1 v.2.2.2.2.2.2.2.1 v.2.2.2.2.2.2.2.2.1 = some r) (fun v => v.1) (m0, b0, b1, b2, b3, b4, b5, b6, b7, c0, c1) h start (fun v hv => ?_)
  obtain ⟨m, a0, a1, a2, a3, a4, a5, a6, a7, g0, g1⟩ := v
  dsimp only at hv ⊢
  cases m with
  | zero => rw [hz] at hv; cases hv
  | succ m =>
    rw [hs] at hv
    refine awp_mono (round (L m) a0 a1 a2 a3 a4 a5 a6 a7 g0 g1 hv) ?_
    intro e af' σ' h'
    cases e with
    | normal =>
      obtain ⟨a0, a1, a2, a3, a4, a5, a6, a7, g0, g1, h3, h4⟩ := h'
      exact ⟨(m, a0, a1, a2, a3, a4, a5, a6, a7, g0, g1), h3, Nat.lt_succ_self m, h4⟩
    | _ => exact h'
theorem k_join8_3 {α0 α1 α2 α3 α4 α5 α6 α7 γ0 γ1 γ2 : Type} {k : (α0 → α1 → α2 → α3 → α4 → α5 → α6 → α7 → Option ρ)} {m : (α0 → α1 → α2 → α3 → α4 → α5 → α6 → α7 → Option ρ) → Option ρ} (h : jn k m = some r) (I : α0 → α1 → α2 → α3 → α4 → α5 → α6 → α7 → γ0 → γ1 → γ2 → AF) (S : α0 → α1 → α2 → α3 → α4 → α5 → α6 → α7 → γ0 → γ1 → γ2 → Items)
    (h1 : ∀ k' : (α0 → α1 → α2 → α3 → α4 → α5 → α6 → α7 → Option ρ), m k' = some r → awp P E n x (den P E n (kI (fun af' σ' => ∃ a0 a1 a2 a3 a4 a5 a6 a7 g0 g1 g2, k' a0 a1 a2 a3 a4 a5 a6 a7 = some r ∧ Sub E n af' σ' (I a0 a1 a2 a3 a4 a5 a6 a7 g0 g1 g2) (S a0 a1 a2 a3 a4 a5 a6 a7 g0 g1 g2)) :: ks)) af σ)
    (h2 : ∀ a0 a1 a2 a3 a4 a5 a6 a7 g0 g1 g2, k a0 a1 a2 a3 a4 a5 a6 a7 = some r → awp P E n y (den P E n ks) (I a0 a1 a2 a3 a4 a5 a6 a7 g0 g1 g2) (S a0 a1 a2 a3 a4 a5 a6 a7 g0 g1 g2)) : awp P E n (.seq x y) (den P E n ks) af σ := by
  refine k_seq (fun a w hh => wp_mono (h1 k h a w hh) ?_)
  rintro e a' w' ⟨af', σ', hh', h'⟩
  cases e with
  | normal =>
    obtain ⟨a0, a1, a2, a3, a4, a5, a6, a7, g0, g1, g2, h3, h4⟩ := h'
    exact ⟨_, _, h4 _ _ hh', h2 a0 a1 a2 a3 a4 a5 a6 a7 g0 g1 g2 h3⟩
  | _ => exact ⟨af', σ', hh', h'⟩
theorem k_loop8_3 {α0 α1 α2 α3 α4 α5 α6 α7 γ0 γ1 γ2 : Type} (L : Nat → (α0 → α1 → α2 → α3 → α4 → α5 → α6 → α7 → Option ρ)) (B : (α0 → α1 → α2 → α3 → α4 → α5 → α6 → α7 → Option ρ) → (α0 → α1 → α2 → α3 → α4 → α5 → α6 → α7 → Option ρ)) (hz : ∀ a0 a1 a2 a3 a4 a5 a6 a7, L 0 a0 a1 a2 a3 a4 a5 a6 a7 = none) (hs : ∀ m, ∀ a0 a1 a2 a3 a4 a5 a6 a7, L (m + 1) a0 a1 a2 a3 a4 a5 a6 a7 = B (L m) a0 a1 a2 a3 a4 a5 a6 a7) {m0 : Nat} {b0 : α0} {b1 : α1} {b2 : α2} {b3 : α3} {b4 : α4} {b5 : α5} {b6 : α6} {b7 : α7} (h : L m0 b0 b1 b2 b3 b4 b5 b6 b7 = some r)
    (I : α0 → α1 → α2 → α3 → α4 → α5 → α6 → α7 → γ0 → γ1 → γ2 → AF) (S : α0 → α1 → α2 → α3 → α4 → α5 → α6 → α7 → γ0 → γ1 → γ2 → Items) (c0 : γ0) (c1 : γ1) (c2 : γ2) (start : Sub E n af σ (I b0 b1 b2 b3 b4 b5 b6 b7 c0 c1 c2) (S b0 b1 b2 b3 b4 b5 b6 b7 c0 c1 c2))
    (round : ∀ rec : (α0 → α1 → α2 → α3 → α4 → α5 → α6 → α7 → Option ρ), ∀ a0 a1 a2 a3 a4 a5 a6 a7 g0 g1 g2, B rec a0 a1 a2 a3 a4 a5 a6 a7 = some r → awp P E n x (den P E n (kI (fun af' σ' => ∃ a0 a1 a2 a3 a4 a5 a6 a7 g0 g1 g2, rec a0 a1 a2 a3 a4 a5 a6 a7 = some r ∧ Sub E n af' σ' (I a0 a1 a2 a3 a4 a5 a6 a7 g0 g1 g2) (S a0 a1 a2 a3 a4 a5 a6 a7 g0 g1 g2)) :: ks)) (I a0 a1 a2 a3 a4 a5 a6 a7 g0 g1 g2) (S a0 a1 a2 a3 a4 a5 a6 a7 g0 g1 g2)) : awp P E n (.loop x) (den P E n ks) af σ := by
  refine awp_loop (α := Nat × α0 × α1 × α2 × α3 × α4 × α5 × α6 × α7 × γ0 × γ1 × γ2) (fun v => I v.2.1 v.2.2.1 v.2.2.2.1 v.2.2.2.2.1 v.2.2.2.2.2.1 v.2.2.2.2.2.2.1 v.2.2.2.2.2.2.2.1 v.2.2.2.2.2.2.2.2.1 v.2.2.2.2.2.2.2.2.2.1 v.2.2.2.2.2.2.2.2.2.2.1 v.2.2.2.2.2.2.2.2.2.2.2) (fun v => S v.2.1 v.2.2.1 v.2.2.2.1 v.2.2.2.2.1 v.2.2.2.2.2.1 v.2.2.2.2.2.2.1 v.2.2.2.2.2.2.2.1 v.2.2.2.2.2.2.2.2.1 v.2.2.2.2.2.2.2.2.2.1 v.2.2.2.2.2.2.2.2.2.2.1 v.2.2.2.2.2.2.2.2.2.2.2) (fun v => L v.1 v.2.1 v.2.2.1 v.2.2.2.1 v.2.2.2.2.1 v.2.2.2.2.2.1 v.2.2.2.2.2.2.1 v.2.2.2.2.2.2.2.1 v.2.2.2.2.2.2.2.2.1 = some r) (fun v => v.1) (m0, b0, b1, b2, b3, b4, b5, b6, b7, c0, c1, c2) h start (fun v hv => ?_)
  obtain ⟨m, a0, a1, a2, a3, a4, a5, a6, a7, g0, g1, g2⟩ := v
  dsimp only at hv ⊢
  cases m with
  | zero => rw [hz] at hv; cases hv
  | succ m =>
    rw [hs] at hv
    refine awp_mono (round (L m) a0 a1 a2 a3 a4 a5 a6 a7 g0 g1 g2 hv) ?_
    intro e af' σ' h'
    cases e with
    | normal =>
      obtain ⟨a0, a1, a2, a3, a4, a5, a6, a7, g0, g1, g2, h3, h4⟩ := h'
      exact ⟨(m, a0, a1, a2, a3, a4, a5, a6, a7, g0, g1, g2), h3, Nat.lt_succ_self m, h4⟩
    | _ => exact h'
theorem k_join8_4 {α0 α1 α2 α3 α4 α5 α6 α7 γ0 γ1 γ2 γ3 : Type} {k : (α0 → α1 → α2 → α3 → α4 → α5 → α6 → α7 → Option ρ)} {m : (α0 → α1 → α2 → α3 → α4 → α5 → α6 → α7 → Option ρ) → Option ρ} (h : jn k m = some r) (I : α0 → α1 → α2 → α3 → α4 → α5 → α6 → α7 → γ0 → γ1 → γ2 → γ3 → AF) (S : α0 → α1 → α2 → α3 → α4 → α5 → α6 → α7 → γ0 → γ1 → γ2 → γ3 → Items)
    (h1 : ∀ k' : (α0 → α1 → α2 → α3 → α4 → α5 → α6 → α7 → Option ρ), m k' = some r → awp P E n x (den P E n (kI (fun af' σ' => ∃ a0 a1 a2 a3 a4 a5 a6 a7 g0 g1 g2 g3, k' a0 a1 a2 a3 a4 a5 a6 a7 = some r ∧ Sub E n af' σ' (I a0 a1 a2 a3 a4 a5 a6 a7 g0 g1 g2 g3) (S a0 a1 a2 a3 a4 a5 a6 a7 g0 g1 g2 g3)) :: ks)) af σ)
    (h2 : ∀ a0 a1 a2 a3 a4 a5 a6 a7 g0 g1 g2 g3, k a0 a1 a2 a3 a4 a5 a6 a7 = some r → awp P E n y (den P E n ks) (I a0 a1 a2 a3 a4 a5 a6 a7 g0 g1 g2 g3) (S a0 a1 a2 a3 a4 a5 a6 a7 g0 g1 g2 g3)) : awp P E n (.seq x y) (den P E n ks) af σ := by
  refine k_seq (fun a w hh => wp_mono (h1 k h a w hh) ?_)
  rintro e a' w' ⟨af', σ', hh', h'⟩
  cases e with
  | normal =>
    obtain ⟨a0, a1, a2, a3, a4, a5, a6, a7, g0, g1, g2, g3, h3, h4⟩ := h'
    exact ⟨_, _, h4 _ _ hh', h2 a0 a1 a2 a3 a4 a5 a6 a7 g0 g1 g2 g3 h3⟩
  | _ => exact ⟨af', σ', hh', h'⟩
theorem k_loop8_4 {α0 α1 α2 α3 α4 α5 α6 α7 γ0 γ1 γ2 γ3 : Type} (L : Nat → (α0 → α1 → α2 → α3 → α4 → α5 → α6 → α7 → Option ρ)) (B : (α0 → α1 → α2 → α3 → α4 → α5 → α6 → α7 → Option ρ) → (α0 → α1 → α2 → α3 → α4 → α5 → α6 → α7 → Option ρ)) (hz : ∀ a0 a1 a2 a3 a4 a5 a6 a7, L 0 a0 a1 a2 a3 a4 a5 a6 a7 = none) (hs : ∀ m, ∀ a0 a1 a2 a3 a4 a5 a6 a7, L (m + 1) a0 a1 a2 a3 a4 a5 a6 a7 = B (L m) a0 a1 a2 a3 a4 a5 a6 a7) {m0 : Nat} {b0 : α0} {b1 : α1} {b2 : α2} {b3 : α3} {b4 : α4} {b5 : α5} {b6 : α6} {b7 : α7} (h : L m0 b0 b1 b2 b3 b4 b5 b6 b7 = some r)
    (I : α0 → α1 → α2 → α3 → α4 → α5 → α6 → α7 → γ0 → γ1 → γ2 → γ3 → AF) (S : α0 → α1 → α2 → α3 → α4 → α5 → α6 → α7 → γ0 → γ1 → γ2 → γ3 → Items) (c0 : γ0) (c1 : γ1) (c2 : γ2) (c3 : γ3) (start : Sub E n af σ (I b0 b1 b2 b3 b4 b5 b6 b7 c0 c1 c2 c3) (S b0 b1 b2 b3 b4 b5 b6 b7 c0 c1 c2 c3))
    (round : ∀ rec : (α0 → α1 → α2 → α3 → α4 → α5 → α6 → α7 → Option ρ), ∀ a0 a1 a2 a3 a4 a5 a6 a7 g0 g1 g2 g3, B rec a0 a1 a2 a3 a4 a5 a6 a7 = some r → awp P E n x (den P E n (kI (fun af' σ' => ∃ a0 a1 a2 a3 a4 a5 a6 a7 g0 g1 g2 g3, rec a0 a1 a2 a3 a4 a5 a6 a7 = some r ∧ Sub E n af' σ' (I a0 a1 a2 a3 a4 a5 a6 a7 g0 g1 g2 g3) (S a0 a1 a2 a3 a4 a5 a6 a7 g0 g1 g2 g3)) :: ks)) (I a0 a1 a2 a3 a4 a5 a6 a7 g0 g1 g2 g3) (S a0 a1 a2 a3 a4 a5 a6 a7 g0 g1 g2 g3)) : awp P E n (.loop x) (den P E n ks) af σ := by
  refine awp_loop (α := Nat × α0 × α1 × α2 × α3 × α4 × α5 × α6 × α7 × γ0 × γ1 × γ2 × γ3) (fun v => I v.2.1 v.2.2.1 v.2.2.2.1 v.2.2.2.2.1 v.2.2.2.2.2.1 v.2.2.2.2.2.2.1 v.2.2.2.2.2.2.2.1 v.2.2.2.2.2.2.2.2.1 v.2.2.2.2.2.2.2.2.2.1 v.2.2.2.2.2.2.2.2.2.2.1 v.2.2.2.2.2.2.2.2.2.2.2.1 v.2.2.2.2.2.2.2.2.2.2.2.2) (fun v => S v.2.1 v.2.2.1 v.2.2.2.1 v.2.2.2.2.1 v.2.2.2.2.2.1 v.2.2.2.2.2.2.1 v.2.2.2.2.2.2.2.1 v.2.2.2.2.2.2.2.2.1 v.2.2.2.2.2.2.2.2.2.1 v.2.2.2.2.2.2.2.2.2.2.1 v.2.2.2.2.2.2.2.2.2.2.2.1 v.2.2.2.2.2.2.2.2.2.2.2.2) (fun v => L v.1 v.2.1 v.2.2.1 v.2.2.2.1 v.2.2.2.2.1 v.2.2.2.2.2.1 v.2.2.2.2.2.2.1 v.2.2.2.2.2.2.2.1 v.2.2.2.2.2.2.2.2.1 = some r) (fun v => v.1) (m0, b0, b1, b2, b3, b4, b5, b6, b7, c0, c1, c2, c3) h start (fun v hv => ?_)
  obtain ⟨m, a0, a1, a2, a3, a4, a5, a6, a7, g0, g1, g2, g3⟩ := v
  dsimp only at hv ⊢
  cases m with
  | zero => rw [hz] at hv; cases hv
  | succ m =>
    rw [hs] at hv
    refine awp_mono (round (L m) a0 a1 a2 a3 a4 a5 a6 a7 g0 g1 g2 g3 hv) ?_
    intro e af' σ' h'
    cases e with
    | normal =>
      obtain ⟨a0, a1, a2, a3, a4, a5, a6, a7, g0, g1, g2, g3, h3, h4⟩ := h'
      exact ⟨(m, a0, a1, a2, a3, a4, a5, a6, a7, g0, g1, g2, g3), h3, Nat.lt_succ_self m, h4⟩
    | _ => exact h'
theorem k_join9_0 {α0 α1 α2 α3 α4 α5 α6 α7 α8 : Type} {k : (α0 → α1 → α2 → α3 → α4 → α5 → α6 → α7 → α8 → Option ρ)} {m : (α0 → α1 → α2 → α3 → α4 → α5 → α6 → α7 → α8 → Option ρ) → Option ρ} (h : jn k m = some r) (I : α0 → α1 → α2 → α3 → α4 → α5 → α6 → α7 → α8 → AF) (S : α0 → α1 → α2 → α3 → α4 → α5 → α6 → α7 → α8 → Items)
    (h1 : ∀ k' : (α0 → α1 → α2 → α3 → α4 → α5 → α6 → α7 → α8 → Option ρ), m k' = some r → awp P E n x (den P E n (kI (fun af' σ' => ∃ a0 a1 a2 a3 a4 a5 a6 a7 a8, k' a0 a1 a2 a3 a4 a5 a6 a7 a8 = some r ∧ Sub E n af' σ' (I a0 a1 a2 a3 a4 a5 a6 a7 a8) (S a0 a1 a2 a3 a4 a5 a6 a7 a8)) :: ks)) af σ)
    (h2 : ∀ a0 a1 a2 a3 a4 a5 a6 a7 a8, k a0 a1 a2 a3 a4 a5 a6 a7 a8 = some r → awp P E n y (den P E n ks) (I a0 a1 a2 a3 a4 a5 a6 a7 a8) (S a0 a1 a2 a3 a4 a5 a6 a7 a8)) : awp P E n (.seq x y) (den P E n ks) af σ := by
  refine k_seq (fun a w hh => wp_mono (h1 k h a w hh) ?_)
  rintro e a' w' ⟨af', σ', hh', h'⟩
  cases e with
  | normal =>
    obtain ⟨a0, a1, a2, a3, a4, a5, a6, a7, a8, h3, h4⟩ := h'
    exact ⟨_, _, h4 _ _ hh', h2 a0 a1 a2 a3 a4 a5 a6 a7 a8 h3⟩
  | _ => exact ⟨af', σ', hh', h'⟩
theorem k_loop9_0 {α0 α1 α2 α3 α4 α5 α6 α7 α8 : Type} (L : Nat → (α0 → α1 → α2 → α3 → α4 → α5 → α6 → α7 → α8 → Option ρ)) (B : (α0 → α1 → α2 → α3 → α4 → α5 → α6 → α7 → α8 → Option ρ) → (α0 → α1 → α2 → α3 → α4 → α5 → α6 → α7 → α8 → Option ρ)) (hz : ∀ a0 a1 a2 a3 a4 a5 a6 a7 a8, L 0 a0 a1 a2 a3 a4 a5 a6 a7 a8 = none) (hs : ∀ m, ∀ a0 a1 a2 a3 a4 a5 a6 a7 a8, L (m + 1) a0 a1 a2 a3 a4 a5 a6 a7 a8 = B (L m) a0 a1 a2 a3 a4 a5 a6 a7 a8) {m0 : Nat} {b0 : α0} {b1 : α1} {b2 : α2} {b3 : α3} {b4 : α4} {b5 : α5} {b6 : α6} {b7 : α7} {b8 : α8} (h : L m0 b0 b1 b2 b3 b4 b5 b6 b7 b8 = some r)
    (I : α0 → α1 → α2 → α3 → α4 → α5 → α6 → α7 → α8 → AF) (S : α0 → α1 → α2 → α3 → α4 → α5 → α6 → α7 → α8 → Items) (start : Sub E n af σ (I b0 b1 b2 b3 b4 b5 b6 b7 b8) (S b0 b1 b2 b3 b4 b5 b6 b7 b8))
    (round : ∀ rec : (α0 → α1 → α2 → α3 → α4 → α5 → α6 → α7 → α8 → Option ρ), ∀ a0 a1 a2 a3 a4 a5 a6 a7 a8, B rec a0 a1 a2 a3 a4 a5 a6 a7 a8 = some r → awp P E n x (den P E n (kI (fun af' σ' => ∃ a0 a1 a2 a3 a4 a5 a6 a7 a8, rec a0 a1 a2 a3 a4 a5 a6 a7 a8 = some r ∧ Sub E n af' σ' (I a0 a1 a2 a3 a4 a5 a6 a7 a8) (S a0 a1 a2 a3 a4 a5 a6 a7 a8)) :: ks)) (I a0 a1 a2 a3 a4 a5 a6 a7 a8) (S a0 a1 a2 a3 a4 a5 a6 a7 a8)) : awp P E n (.loop x) (den P E n ks) af σ := by
  refine awp_loop (α := Nat × α0 × α1 × α2 × α3 × α4 × α5 × α6 × α7 × α8) (fun v => I v.2.1 v.2.2.1 v.2.2.2.1 v.2.2.2.2.1 v.2.2.2.2.2.1 v.2.2.2.2.2.2.1 v.2.2.2.2.2.2.2.1 v.2.2.2.2.2.2.2.2.1 v.2.2.2.2.2.2.2.2.2) (fun v => S v.2.1 v.2.2.1 v.2.2.2.1 v.2.2.2.2.1 v.2.2.2.2.2.1 v.2.2.2.2.2.2.1 v.2.2.2.2.2.2.2.1 v.2.2.2.2.2.2.2.2.1 v.2.2.2.2.2.2.2.2.2) (fun v => L v.1 v.2.1 v.2.2.1 v.2.2.2.1 v.2.2.2.2.1 v.2.2.2.2.2.1 v.2.2.2.2.2.2.1 v.2.2.2.2.2.2.2.1 v.2.2.2.2.2.2.2.2.1 v.2.2.2.2.2.2.2.2.2 = some r) (fun v => v.1) (m0, b0, b1, b2, b3, b4, b5, b6, b7, b8) h start (fun v hv => ?_)
  obtain ⟨m, a0, a1, a2, a3, a4, a5, a6, a7, a8⟩ := v
  dsimp only at hv ⊢
  cases m with
  | zero => rw [hz] at hv; cases hv
  | succ m =>
    rw [hs] at hv
    refine awp_mono (round (L m) a0 a1 a2 a3 a4 a5 a6 a7 a8 hv) ?_
    intro e af' σ' h'
    cases e with
    | normal =>
      obtain ⟨a0, a1, a2, a3, a4, a5, a6, a7, a8, h3, h4⟩ := h'
      exact ⟨(m, a0, a1, a2, a3, a4, a5, a6, a7, a8), h3, Nat.lt_succ_self m, h4⟩
    | _ => exact h'
theorem k_join9_1 {α0 α1 α2 α3 α4 α5 α6 α7 α8 γ0 : Type} {k : (α0 → α1 → α2 → α3 → α4 → α5 → α6 → α7 → α8 → Option ρ)} {m : (α0 → α1 → α2 → α3 → α4 → α5 → α6 → α7 → α8 → Option ρ) → Option ρ} (h : jn k m = some r) (I : α0 → α1 → α2 → α3 → α4 → α5 → α6 → α7 → α8 → γ0 → AF) (S : α0 → α1 → α2 → α3 → α4 → α5 → α6 → α7 → α8 → γ0 → Items)
    (h1 : ∀ k' : (α0 → α1 → α2 → α3 → α4 → α5 → α6 → α7 → α8 → Option ρ), m k' = some r → awp P E n x (den P E n (kI (fun af' σ' => ∃ a0 a1 a2 a3 a4 a5 a6 a7 a8 g0, k' a0 a1 a2 a3 a4 a5 a6 a7 a8 = some r ∧ Sub E n af' σ' (I a0 a1 a2 a3 a4 a5 a6 a7 a8 g0) (S a0 a1 a2 a3 a4 a5 a6 a7 a8 g0)) :: ks)) af σ)
    (h2 : ∀ a0 a1 a2 a3 a4 a5 a6 a7 a8 g0, k a0 a1 a2 a3 a4 a5 a6 a7 a8 = some r → awp P E n y (den P E n ks) (I a0 a1 a2 a3 a4 a5 a6 a7 a8 g0) (S a0 a1 a2 a3 a4 a5 a6 a7 a8 g0)) : awp P E n (.seq x y) (den P E n ks) af σ := by
  refine k_seq (fun a w hh => wp_mono (h1 k h a w hh) ?_)
  rintro e a' w' ⟨af', σ', hh', h'⟩
  cases e with
  | normal =>
    obtain ⟨a0, a1, a2, a3, a4, a5, a6, a7, a8, g0, h3, h4⟩ := h'
    exact ⟨_, _, h4 _ _ hh', h2 a0 a1 a2 a3 a4 a5 a6 a7 a8 g0 h3⟩
  | _ => exact ⟨af', σ', hh', h'⟩
theorem k_loop9_1 {α0 α1 α2 α3 α4 α5 α6 α7 α8 γ0 : Type} (L : Nat → (α0 → α1 → α2 → α3 → α4 → α5 → α6 → α7 → α8 → Option ρ)) (B : (α0 → α1 → α2 → α3 → α4 → α5 → α6 → α7 → α8 → Option ρ) → (α0 → α1 → α2 → α3 → α4 → α5 → α6 → α7 → α8 → Option ρ)) (hz : ∀ a0 a1 a2 a3 a4 a5 a6 a7 a8, L 0 a0 a1 a2 a3 a4 a5 a6 a7 a8 = none) (hs : ∀ m, ∀ a0 a1 a2 a3 a4 a5 a6 a7 a8, L (m + 1) a0 a1 a2 a3 a4 a5 a6 a7 a8 = B (L m) a0 a1 a2 a3 a4 a5 a6 a7 a8) {m0 : Nat} {b0 : α0} {b1 : α1} {b2 : α2} {b3 : α3} {b4 : α4} {b5 : α5} {b6 : α6} {b7 : α7} {b8 : α8} (h : L m0 b0 b1 b2 b3 b4 b5 b6 b7 b8 = some r)
    (I : α0 → α1 → α2 → α3 → α4 → α5 → α6 → α7 → α8 → γ0 → AF) (S : α0 → α1 → α2 → α3 → α4 → α5 → α6 → α7 → α8 → γ0 → Items) (c0 : γ0) (start : Sub E n af σ (I b0 b1 b2 b3 b4 b5 b6 b7 b8 c0) (S b0 b1 b2 b3 b4 b5 b6 b7 b8 c0))
    (round : ∀ rec : (α0 → α1 → α2 → α3 → α4 → α5 → α6 → α7 → α8 → Option ρ), ∀ a0 a1 a2 a3 a4 a5 a6 a7 a8 g0, B rec a0 a1 a2 a3 a4 a5 a6 a7 a8 = some r → awp P E n x (den P E n (kI (fun af' σ' => ∃ a0 a1 a2 a3 a4 a5 a6 a7 a8 g0, rec a0 a1 a2 a3 a4 a5 a6 a7 a8 = some r ∧ Sub E n af' σ' (I a0 a1 a2 a3 a4 a5 a6 a7 a8 g0) (S a0 a1 a2 a3 a4 a5 a6 a7 a8 g0)) :: ks)) (I a0 a1 a2 a3 a4 a5 a6 a7 a8 g0) (S a0 a1 a2 a3 a4 a5 a6 a7 a8 g0)) : awp P E n (.loop x) (den P E n ks) af σ := by
  refine awp_loop (α := Nat × α0 × α1 × α2 × α3 × α4 × α5 × α6 × α7 × α8 × γ0) (fun v => I v.2.1 v.2.2.1 v.2.2.2.1 v.2.2.2.2.1 v.2.2.2.2.2.1 v.2.2.2.2.2.2.1 v.2.2.2.2.2.2.2.1 v.2.2.2.2.2.2.2.2.1 v.2.2.2.2.2.2.2.2.2.1 v.2.2.2.2.2.2.2.2.2.2) (fun v => S v.2.1 v.2.2.1 v.2.2.2.1 v.2.2.2.2.1 v.2.2.2.2.2.1 v.2.2.2.2.2.2.1 v.2.2.2.2.2.2.2.1 v.2.2.2.2.2.2.2.2.1 v.2.2.2.2.2.2.2.2.2.1 v.2.2.2.2.2.2.2.2.2.2) (fun v => L v.1 v.2.1 v.2.2.1 v.2.2.2.1 v.2.2.2.2.1 v.2.2.2.2.2.1 v.2.2.2.2.2.2.1 v.2.2.2.2.2.2.2.1 v.2.2.2.2.2.2.2.2.1 v.2.2.2.2.2.2.2.2.2.1 = some r) (fun v => v.1) (m0, b0, b1, b2, b3, b4, b5, b6, b7, b8, c0) h start (fun v hv => ?_)
  obtain ⟨m, a0, a1, a2, a3, a4, a5, a6, a7, a8, g0⟩ := v
  dsimp only at hv ⊢
  cases m with
  | zero => rw [hz] at hv; cases hv
  | succ m =>
    rw [hs] at hv
    refine awp_mono (round (L m) a0 a1 a2 a3 a4 a5 a6 a7 a8 g0 hv) ?_
    intro e af' σ' h'
    cases e with
    | normal =>
      obtain ⟨a0, a1, a2, a3, a4, a5, a6, a7, a8, g0, h3, h4⟩ := h'
      exact ⟨(m, a0, a1, a2, a3, a4, a5, a6, a7, a8, g0), h3, Nat.lt_succ_self m, h4⟩
    | _ => exact h'
theorem k_join9_2 {α0 α1 α2 α3 α4 α5 α6 α7 α8 γ0 γ1 : Type} {k : (α0 → α1 → α2 → α3 → α4 → α5 → α6 → α7 → α8 → Option ρ)} {m : (α0 → α1 → α2 → α3 → α4 → α5 → α6 → α7 → α8 → Option ρ) → Option ρ} (h : jn k m = some r) (I : α0 → α1 → α2 → α3 → α4 → α5 → α6 → α7 → α8 → γ0 → γ1 → AF) (S : α0 → α1 → α2 → α3 → α4 → α5 → α6 → α7 → α8 → γ0 → γ1 → Items)
    (h1 : ∀ k' : (α0 → α1 → α2 → α3 → α4 → α5 → α6 → α7 → α8 → Option ρ), m k' = some r → awp P E n x (den P E n (kI (fun af' σ' => ∃ a0 a1 a2 a3 a4 a5 a6 a7 a8 g0 g1, k' a0 a1 a2 a3 a4 a5 a6 a7 a8 = some r ∧ Sub E n af' σ' (I a0 a1 a2 a3 a4 a5 a6 a7 a8 g0 g1) (S a0 a1 a2 a3 a4 a5 a6 a7 a8 g0 g1)) :: ks)) af σ)
    (h2 : ∀ a0 a1 a2 a3 a4 a5 a6 a7 a8 g0 g1, k a0 a1 a2 a3 a4 a5 a6 a7 a8 = some r → awp P E n y (den P E n ks) (I a0 a1 a2 a3 a4 a5 a6 a7 a8 g0 g1) (S a0 a1 a2 a3 a4 a5 a6 a7 a8 g0 g1)) : awp P E n (.seq x y) (den P E n ks) af σ := by
  refine k_seq (fun a w hh => wp_mono (h1 k h a w hh) ?_)
  rintro e a' w' ⟨af', σ', hh', h'⟩
  cases e with
  | normal =>
    obtain ⟨a0, a1, a2, a3, a4, a5, a6, a7, a8, g0, g1, h3, h4⟩ := h'
    exact ⟨_, _, h4 _ _ hh', h2 a0 a1 a2 a3 a4 a5 a6 a7 a8 g0 g1 h3⟩
  | _ => exact ⟨af', σ', hh', h'⟩
theorem k_loop9_2 {α0 α1 α2 α3 α4 α5 α6 α7 α8 γ0 γ1 : Type} (L : Nat → (α0 → α1 → α2 → α3 → α4 → α5 → α6 → α7 → α8 → Option ρ)) (B : (α0 → α1 → α2 → α3 → α4 → α5 → α6 → α7 → α8 → Option ρ) → (α0 → α1 → α2 → α3 → α4 → α5 → α6 → α7 → α8 → Option ρ)) (hz : ∀ a0 a1 a2 a3 a4 a5 a6 a7 a8, L 0 a0 a1 a2 a3 a4 a5 a6 a7 a8 = none) (hs : ∀ m, ∀ a0 a1 a2 a3 a4 a5 a6 a7 a8, L (m + 1) a0 a1 a2 a3 a4 a5 a6 a7 a8 = B (L m) a0 a1 a2 a3 a4 a5 a6 a7 a8) {m0 : Nat} {b0 : α0} {b1 : α1} {b2 : α2} {b3 : α3} {b4 : α4} {b5 : α5} {b6 : α6} {b7 : α7} {b8 : α8} (h : L m0 b0 b1 b2 b3 b4 b5 b6 b7 b8 = some r)
    (I : α0 → α1 → α2 → α3 → α4 → α5 → α6 → α7 → α8 → γ0 → γ1 → AF) (S : α0 → α1 → α2 → α3 → α4 → α5 → α6 → α7 → α8 → γ0 → γ1 → Items) (c0 : γ0) (c1 : γ1) (start : Sub E n af σ (I b0 b1 b2 b3 b4 b5 b6 b7 b8 c0 c1) (S b0 b1 b2 b3 b4 b5 b6 b7 b8 c0 c1))
    (round : ∀ rec : (α0 → α1 → α2 → α3 → α4 → α5 → α6 → α7 → α8 → Option ρ), ∀ a0 a1 a2 a3 a4 a5 a6 a7 a8 g0 g1, B rec a0 a1 a2 a3 a4 a5 a6 a7 a8 = some r → awp P E n x (den P E n (kI (fun af' σ' => ∃ a0 a1 a2 a3 a4 a5 a6 a7 a8 g0 g1, rec a0 a1 a2 a3 a4 a5 a6 a7 a8 = some r ∧ Sub E n af' σ' (I a0 a1 a2 a3 a4 a5 a6 a7 a8 g0 g1) (S a0 a1 a2 a3 a4 a5 a6 a7 a8 g0 g1)) :: ks)) (I a0 a1 a2 a3 a4 a5 a6 a7 a8 g0 g1) (S a0 a1 a2 a3 a4 a5 a6 a7 a8 g0 g1)) : awp P E n (.loop x) (den P E n ks) af σ := by
  refine awp_loop (α := Nat × α0 × α1 × α2 × α3 × α4 × α5 × α6 × α7 × α8 × γ0 × γ1) (fun v => I v.2.1 v.2.2.1 v.2.2.2.1 v.2.2.2.2.1 v.2.2.2.2.2.1 v.2.2.2.2.2.2.1 v.2.2.2.2.2.2.2.1 v.2.2.2.2.2.2.2.2.1 v.2.2.2.2.2.2.2.2.2.1 v.2.2.2.2.2.2.2.2.2.2.1 v.2.2.2.2.2.2.2.2.2.2.2) (fun v => S v.2.1 v.2.2.1 v.2.2.2.1 v.2.2.2.2.1 v.2.2.2.2.2.1 v.2.2.2.2.2.2.1 v.2.2.2.2.2.2.2.1 v.2.2.2.2.2.2.2.2.1 v.2.2.2.2.2.2.2.2.2.1 v.2.2.2.2.2.2.2.2.2.2.1 v.2.2.2.2.2.2.2.2.2.2.2) (fun v => L v.1 v.2.1 v.2.2.1 v.2.2.2.1 v.2.2.2.2.1 v.2.2.2.2.2.1 v.2.2.2.2.2.2.1 v.2.2.2.2.2.2.2.1 v.2.2.2.2.2.2.2.2.1 v.2.2.2.2.2.2.2.2.2.1 = some r) (fun v => v.1) (m0, b0, b1, b2, b3, b4, b5, b6, b7, b8, c0, c1) h start (fun v hv => ?_)
  obtain ⟨m, a0, a1, a2, a3, a4, a5, a6, a7, a8, g0, g1⟩ := v
  dsimp only at hv ⊢
  cases m with
  | zero => rw [hz] at hv; cases hv
  | succ m =>
    rw [hs] at hv
    refine awp_mono (round (L m) a0 a1 a2 a3 a4 a5 a6 a7 a8 g0 g1 hv) ?_
    intro e af' σ' h'
    cases e with
    | normal =>
      obtain ⟨a0, a1, a2, a3, a4, a5, a6, a7, a8, g0, g1, h3, h4⟩ := h'
      exact ⟨(m, a0, a1, a2, a3, a4, a5, a6, a7, a8, g0, g1), h3, Nat.lt_succ_self m, h4⟩
    | _ => exact h'
theorem k_join9_3 {α0 α1 α2 α3 α4 α5 α6 α7 α8 γ0 γ1 γ2 : Type} {k : (α0 → α1 → α2 → α3 → α4 → α5 → α6 → α7 → α8 → Option ρ)} {m : (α0 → α1 → α2 → α3 → α4 → α5 → α6 → α7 → α8 → Option ρ) → Option ρ} (h : jn k m = some r) (I : α0 → α1 → α2 → α3 → α4 → α5 → α6 → α7 → α8 → γ0 → γ1 → γ2 → AF) (S : α0 → α1 → α2 → α3 → α4 → α5 → α6 → α7 → α8 → γ0 → γ1 → γ2 → Items)
    (h1 : ∀ k' : (α0 → α1 → α2 → α3 → α4 → α5 → α6 → α7 → α8 → Option ρ), m k' = some r → awp P E n x (den P E n (kI (fun af' σ' => ∃ a0 a1 a2 a3 a4 a5 a6 a7 a8 g0 g1 g2, k' a0 a1 a2 a3 a4 a5 a6 a7 a8 = some r ∧ Sub E n af' σ' (I a0 a1 a2 a3 a4 a5 a6 a7 a8 g0 g1 g2) (S a0 a1 a2 a3 a4 a5 a6 a7 a8 g0 g1 g2)) :: ks)) af σ)
    (h2 : ∀ a0 a1 a2 a3 a4 a5 a6 a7 a8 g0 g1 g2, k a0 a1 a2 a3 a4 a5 a6 a7 a8 = some r → awp P E n y (den P E n ks) (I a0 a1 a2 a3 a4 a5 a6 a7 a8 g0 g1 g2) (S a0 a1 a2 a3 a4 a5 a6 a7 a8 g0 g1 g2)) : awp P E n (.seq x y) (den P E n ks) af σ := by
  refine k_seq (fun a w hh => wp_mono (h1 k h a w hh) ?_)
  rintro e a' w' ⟨af', σ', hh', h'⟩
  cases e with
  | normal =>
    obtain ⟨a0, a1, a2, a3, a4, a5, a6, a7, a8, g0, g1, g2, h3, h4⟩ := h'
    exact ⟨_, _, h4 _ _ hh', h2 a0 a1 a2 a3 a4 a5 a6 a7 a8 g0 g1 g2 h3⟩
  | _ => exact ⟨af', σ', hh', h'⟩
theorem k_loop9_3 {α0 α1 α2 α3 α4 α5 α6 α7 α8 γ0 γ1 γ2 : Type} (L : Nat → (α0 → α1 → α2 → α3 → α4 → α5 → α6 → α7 → α8 → Option ρ)) (B : (α0 → α1 → α2 → α3 → α4 → α5 → α6 → α7 → α8 → Option ρ) → (α0 → α1 → α2 → α3 → α4 → α5 → α6 → α7 → α8 → Option ρ)) (hz : ∀ a0 a1 a2 a3 a4 a5 a6 a7 a8, L 0 a0 a1 a2 a3 a4 a5 a6 a7 a8 = none) (hs : ∀ m, ∀ a0 a1 a2 a3 a4 a5 a6 a7 a8, L (m + 1) a0 a1 a2 a3 a4 a5 a6 a7 a8 = B (L m) a0 a1 a2 a3 a4 a5 a6 a7 a8) {m0 : Nat} {b0 : α0} {b1 : α1} {b2 : α2} {b3 : α3} {b4 : α4} {b5 : α5} {b6 : α6} {b7 : α7} {b8 : α8} (h : L m0 b0 b1 b2 b3 b4 b5 b6 b7 b8 = some r)
    (I : α0 → α1 → α2 → α3 → α4 → α5 → α6 → α7 → α8 → γ0 → γ1 → γ2 → AF) (S : α0 → α1 → α2 → α3 → α4 → α5 → α6 → α7 → α8 → γ0 → γ1 → γ2 → Items) (c0 : γ0) (c1 : γ1) (c2 : γ2) (start : Sub E n af σ (I b0 b1 b2 b3 b4 b5 b6 b7 b8 c0 c1 c2) (S b0 b1 b2 b3 b4 b5 b6 b7 b8 c0 c1 c2))
    (round : ∀ rec : (α0 → α1 → α2 → α3 → α4 → α5 → α6 → α7 → α8 → Option ρ), ∀ a0 a1 a2 a3 a4 a5 a6 a7 a8 g0 g1 g2, B rec a0 a1 a2 a3 a4 a5 a6 a7 a8 = some r → awp P E n x (den P E n (kI (fun af' σ' => ∃ a0 a1 a2 a3 a4 a5 a6 a7 a8 g0 g1 g2, rec a0 a1 a2 a3 a4 a5 a6 a7 a8 = some r ∧ Sub E n af' σ' (I a0 a1 a2 a3 a4 a5 a6 a7 a8 g0 g1 g2) (S a0 a1 a2 a3 a4 a5 a6 a7 a8 g0 g1 g2)) :: ks)) (I a0 a1 a2 a3 a4 a5 a6 a7 a8 g0 g1 g2) (S a0 a1 a2 a3 a4 a5 a6 a7 a8 g0 g1 g2)) : awp P E n (.loop x) (den P E n ks) af σ := by
  refine awp_loop (α := Nat × α0 × α1 × α2 × α3 × α4 × α5 × α6 × α7 × α8 × γ0 × γ1 × γ2) (fun v => I v.2.1 v.2.2.1 v.2.2.2.1 v.2.2.2.2.1 v.2.2.2.2.2.1 v.2.2.2.2.2.2.1 v.2.2.2.2.2.2.2.1 v.2.2.2.2.2.2.2.2.1 v.2.2.2.2.2.2.2.2.2.1 v.2.2.2.2.2.2.2.2.2.2.1 v.2.2.2.2.2.2.2.2.2.2.2.1 v.2.2.2.2.2.2.2.2.2.2.2.2) (fun v => S v.2.1 v.2.2.1 v.2.2.2.1 v.2.2.2.2.1 v.2.2.2.2.2.1 v.2.2.2.2.2.2.1 v.2.2.2.2.2.2.2.1 v.2.2.2.2.2.2.2.2.1 v.2.2.2.2.2.2.2.2.2.1 v.2.2.2.2.2.2.2.2.2.2.1 v.2.2.2.2.2.2.2.2.2.2.2.1 v.2.2.2.2.2.2.2.2.2.2.2.2) (fun v => L v.1 v.2.1 v.2.2.1 v.2.2.2.1 v.2.2.2.2.1 v.2.2.2.2.2.1 v.2.2.2.2.2.2.1 v.2.2.2.2.2.2.2.1 v.2.2.2.2.2.2.2.2.1 v.2.2.2.2.2.2.2.2.2.1 = some r) (fun v => v.1) (m0, b0, b1, b2, b3, b4, b5, b6, b7, b8, c0, c1, c2) h start (fun v hv => ?_)
  obtain ⟨m, a0, a1, a2, a3, a4, a5, a6, a7, a8, g0, g1, g2⟩ := v
  dsimp only at hv ⊢
  cases m with
  | zero => rw [hz] at hv; cases hv
  | succ m =>
    rw [hs] at hv
    refine awp_mono (round (L m) a0 a1 a2 a3 a4 a5 a6 a7 a8 g0 g1 g2 hv) ?_
    intro e af' σ' h'
    cases e with
    | normal =>
      obtain ⟨a0, a1, a2, a3, a4, a5, a6, a7, a8, g0, g1, g2, h3, h4⟩ := h'
      exact ⟨(m, a0, a1, a2, a3, a4, a5, a6, a7, a8, g0, g1, g2), h3, Nat.lt_succ_self m, h4⟩
    | _ => exact h'
theorem k_join9_4 {α0 α1 α2 α3 α4 α5 α6 α7 α8 γ0 γ1 γ2 γ3 : Type} {k : (α0 → α1 → α2 → α3 → α4 → α5 → α6 → α7 → α8 → Option ρ)} {m : (α0 → α1 → α2 → α3 → α4 → α5 → α6 → α7 → α8 → Option ρ) → Option ρ} (h : jn k m = some r) (I : α0 → α1 → α2 → α3 → α4 → α5 → α6 → α7 → α8 → γ0 → γ1 → γ2 → γ3 → AF) (S : α0 → α1 → α2 → α3 → α4 → α5 → α6 → α7 → α8 → γ0 → γ1 → γ2 → γ3 → Items)
    (h1 : ∀ k' : (α0 → α1 → α2 → α3 → α4 → α5 → α6 → α7 → α8 → Option ρ), m k' = some r → awp P E n x (den P E n (kI (fun af' σ' => ∃ a0 a1 a2 a3 a4 a5 a6 a7 a8 g0 g1 g2 g3, k' a0 a1 a2 a3 a4 a5 a6 a7 a8 = some r ∧ Sub E n af' σ' (I a0 a1 a2 a3 a4 a5 a6 a7 a8 g0 g1 g2 g3) (S a0 a1 a2 a3 a4 a5 a6 a7 a8 g0 g1 g2 g3)) :: ks)) af σ)
    (h2 : ∀ a0 a1 a2 a3 a4 a5 a6 a7 a8 g0 g1 g2 g3, k a0 a1 a2 a3 a4 a5 a6 a7 a8 = some r → awp P E n y (den P E n ks) (I a0 a1 a2 a3 a4 a5 a6 a7 a8 g0 g1 g2 g3) (S a0 a1 a2 a3 a4 a5 a6 a7 a8 g0 g1 g2 g3)) : awp P E n (.seq x y) (den P E n ks) af σ := by
  refine k_seq (fun a w hh => wp_mono (h1 k h a w hh) ?_)
  rintro e a' w' ⟨af', σ', hh', h'⟩
  cases e with
  | normal =>
    obtain ⟨a0, a1, a2, a3, a4, a5, a6, a7, a8, g0, g1, g2, g3, h3, h4⟩ := h'
    exact ⟨_, _, h4 _ _ hh', h2 a0 a1 a2 a3 a4 a5 a6 a7 a8 g0 g1 g2 g3 h3⟩
  | _ => exact ⟨af', σ', hh', h'⟩
theorem k_loop9_4 {α0 α1 α2 α3 α4 α5 α6 α7 α8 γ0 γ1 γ2 γ3 : Type} (L : Nat → (α0 → α1 → α2 → α3 → α4 → α5 → α6 → α7 → α8 → Option ρ)) (B : (α0 → α1 → α2 → α3 → α4 → α5 → α6 → α7 → α8 → Option ρ) → (α0 → α1 → α2 → α3 → α4 → α5 → α6 → α7 → α8 → Option ρ)) (hz : ∀ a0 a1 a2 a3 a4 a5 a6 a7 a8, L 0 a0 a1 a2 a3 a4 a5 a6 a7 a8 = none) (hs : ∀ m, ∀ a0 a1 a2 a3 a4 a5 a6 a7 a8, L (m + 1) a0 a1 a2 a3 a4 a5 a6 a7 a8 = B (L m) a0 a1 a2 a3 a4 a5 a6 a7 a8) {m0 : Nat} {b0 : α0} {b1 : α1} {b2 : α2} {b3 : α3} {b4 : α4} {b5 : α5} {b6 : α6} {b7 : α7} {b8 : α8} (h : L m0 b0 b1 b2 b3 b4 b5 b6 b7 b8 = some r)
    (I : α0 → α1 → α2 → α3 → α4 → α5 → α6 → α7 → α8 → γ0 → γ1 → γ2 → γ3 → AF) (S : α0 → α1 → α2 → α3 → α4 → α5 → α6 → α7 → α8 → γ0 → γ1 → γ2 → γ3 → Items) (c0 : γ0) (c1 : γ1) (c2 : γ2) (c3 : γ3) (start : Sub E n af σ (I b0 b1 b2 b3 b4 b5 b6 b7 b8 c0 c1 c2 c3) (S b0 b1 b2 b3 b4 b5 b6 b7 b8 c0 c1 c2 c3))
    (round : ∀ rec : (α0 → α1 → α2 → α3 → α4 → α5 → α6 → α7 → α8 → Option ρ), ∀ a0 a1 a2 a3 a4 a5 a6 a7 a8 g0 g1 g2 g3, B rec a0 a1 a2 a3 a4 a5 a6 a7 a8 = some r → awp P E n x (den P E n (kI (fun af' σ' => ∃ a0 a1 a2 a3 a4 a5 a6 a7 a8 g0 g1 g2 g3, rec a0 a1 a2 a3 a4 a5 a6 a7 a8 = some r ∧ Sub E n af' σ' (I a0 a1 a2 a3 a4 a5 a6 a7 a8 g0 g1 g2 g3) (S a0 a1 a2 a3 a4 a5 a6 a7 a8 g0 g1 g2 g3)) :: ks)) (I a0 a1 a2 a3 a4 a5 a6 a7 a8 g0 g1 g2 g3) (S a0 a1 a2 a3 a4 a5 a6 a7 a8 g0 g1 g2 g3)) : awp P E n (.loop x) (den P E n ks) af σ := by
  refine awp_loop (α := Nat × α0 × α1 × α2 × α3 × α4 × α5 × α6 × α7 × α8 × γ0 × γ1 × γ2 × γ3) (fun v => I v.2.1 v.2.2.1 v.2.2.2.1 v.2.2.2.2.1 v.2.2.2.2.2.1 v.2.2.2.2.2.2.1 v.2.2.2.2.2.2.2.1 v.2.2.2.2.2.2.2.2.1 v.2.2.2.2.2.2.2.2.2.1 v.2.2.2.2.2.2.2.2.2.2.1 v.2.2.2.2.2.2.2.2.2.2.2.1 v.2.2.2.2.2.2.2.2.2.2.2.2.1 v.2.2.2.2.2.2.2.2.2.2.2.2.2) (fun v => S v.2.1 v.2.2.1 v.2.2.2.1 v.2.2.2.2.1 v.2.2.2.2.2.1 v.2.2.2.2.2.2.1 v.2.2.2.2.2.2.2.1 v.2.2.2.2.2.2.2.2.1 v.2.2.2.2.2.2.2.2.2.1 v.2.2.2.2.2.2.2.2.2.2.1 v.2.2.2.2.2.2.2.2.2.2.2.1 v.2.2.2.2.2.2.2.2.2.2.2.2.1 v.2.2.2.2.2.2.2.2.2.2.2.2.2) (fun v => L v.1 v.2.1 v.2.2.1 v.2.2.2.1 v.2.2.2.2.1 v.2.2.2.2.2.1 v.2.2.2.2.2.2.1 v.2.2.2.2.2.2.2.1 v.2.2.2.2.2.2.2.2.1 v.2.2.2.2.2.2.2.2.2.1 = some r) (fun v => v.1) (m0, b0, b1, b2, b3, b4, b5, b6, b7, b8, c0, c1, c2, c3) h start (fun v hv => ?_)
  obtain ⟨m, a0, a1, a2, a3, a4, a5, a6, a7, a8, g0, g1, g2, g3⟩ := v
  dsimp only at hv ⊢
  cases m with
  | zero => rw [hz] at hv; cases hv
  | succ m =>
    rw [hs] at hv
    refine awp_mono (round (L m) a0 a1 a2 a3 a4 a5 a6 a7 a8 g0 g1 g2 g3 hv) ?_
    intro e af' σ' h'
    cases e with
    | normal =>
      obtain ⟨a0, a1, a2, a3, a4, a5, a6, a7, a8, g0, g1, g2, g3, h3, h4⟩ := h'
      exact ⟨(m, a0, a1, a2, a3, a4, a5, a6, a7, a8, g0, g1, g2, g3), h3, Nat.lt_succ_self m, h4⟩
    | _ => exact h'
theorem k_join10_0 {α0 α1 α2 α3 α4 α5 α6 α7 α8 α9 : Type} {k : (α0 → α1 → α2 → α3 → α4 → α5 → α6 → α7 → α8 → α9 → Option ρ)} {m : (α0 → α1 → α2 → α3 → α4 → α5 → α6 → α7 → α8 → α9 → Option ρ) → Option ρ} (h : jn k m = some r) (I : α0 → α1 → α2 → α3 → α4 → α5 → α6 → α7 → α8 → α9 → AF) (S : α0 → α1 → α2 → α3 → α4 → α5 → α6 → α7 → α8 → α9 → Items)
    (h1 : ∀ k' : (α0 → α1 → α2 → α3 → α4 → α5 → α6 → α7 → α8 → α9 → Option ρ), m k' = some r → awp P E n x (den P E n (kI (fun af' σ' => ∃ a0 a1 a2 a3 a4 a5 a6 a7 a8 a9, k' a0 a1 a2 a3 a4 a5 a6 a7 a8 a9 = some r ∧ Sub E n af' σ' (I a0 a1 a2 a3 a4 a5 a6 a7 a8 a9) (S a0 a1 a2 a3 a4 a5 a6 a7 a8 a9)) :: ks)) af σ)
    (h2 : ∀ a0 a1 a2 a3 a4 a5 a6 a7 a8 a9, k a0 a1 a2 a3 a4 a5 a6 a7 a8 a9 = some r → awp P E n y (den P E n ks) (I a0 a1 a2 a3 a4 a5 a6 a7 a8 a9) (S a0 a1 a2 a3 a4 a5 a6 a7 a8 a9)) : awp P E n (.seq x y) (den P E n ks) af σ := by
  refine k_seq (fun a w hh => wp_mono (h1 k h a w hh) ?_)
  rintro e a' w' ⟨af', σ', hh', h'⟩
  cases e with
  | normal =>
    obtain ⟨a0, a1, a2, a3, a4, a5, a6, a7, a8, a9, h3, h4⟩ := h'
    exact ⟨_, _, h4 _ _ hh', h2 a0 a1 a2 a3 a4 a5 a6 a7 a8 a9 h3⟩
  | _ => exact ⟨af', σ', hh', h'⟩
theorem k_loop10_0 {α0 α1 α2 α3 α4 α5 α6 α7 α8 α9 : Type} (L : Nat → (α0 → α1 → α2 → α3 → α4 → α5 → α6 → α7 → α8 → α9 → Option ρ)) (B : (α0 → α1 → α2 → α3 → α4 → α5 → α6 → α7 → α8 → α9 → Option ρ) → (α0 → α1 → α2 → α3 → α4 → α5 → α6 → α7 → α8 → α9 → Option ρ)) (hz : ∀ a0 a1 a2 a3 a4 a5 a6 a7 a8 a9, L 0 a0 a1 a2 a3 a4 a5 a6 a7 a8 a9 = none) (hs : ∀ m, ∀ a0 a1 a2 a3 a4 a5 a6 a7 a8 a9, L (m + 1) a0 a1 a2 a3 a4 a5 a6 a7 a8 a9 = B (L m) a0 a1 a2 a3 a4 a5 a6 a7 a8 a9) {m0 : Nat} {b0 : α0} {b1 : α1} {b2 : α2} {b3 : α3} {b4 : α4} {b5 : α5} {b6 : α6} {b7 : α7} {b8 : α8} {b9 : α9} (h : L m0 b0 b1 b2 b3 b4 b5 b6 b7 b8 b9 = some r)
    (I : α0 → α1 → α2 → α3 → α4 → α5 → α6 → α7 → α8 → α9 → AF) (S : α0 → α1 → α2 → α3 → α4 → α5 → α6 → α7 → α8 → α9 → Items) (start : Sub E n af σ (I b0 b1 b2 b3 b4 b5 b6 b7 b8 b9) (S b0 b1 b2 b3 b4 b5 b6 b7 b8 b9))
    (round : ∀ rec : (α0 → α1 → α2 → α3 → α4 → α5 → α6 → α7 → α8 → α9 → Option ρ), ∀ a0 a1 a2 a3 a4 a5 a6 a7 a8 a9, B rec a0 a1 a2 a3 a4 a5 a6 a7 a8 a9 = some r → awp P E n x (den P E n (kI (fun af' σ' => ∃ a0 a1 a2 a3 a4 a5 a6 a7 a8 a9, rec a0 a1 a2 a3 a4 a5 a6 a7 a8 a9 = some r ∧ Sub E n af' σ' (I a0 a1 a2 a3 a4 a5 a6 a7 a8 a9) (S a0 a1 a2 a3 a4 a5 a6 a7 a8 a9)) :: ks)) (I a0 a1 a2 a3 a4 a5 a6 a7 a8 a9) (S a0 a1 a2 a3 a4 a5 a6 a7 a8 a9)) : awp P E n (.loop x) (den P E n ks) af σ := by
  refine awp_loop (α := Nat × α0 × α1 × α2 × α3 × α4 × α5 × α6 × α7 × α8 × α9) (fun v => I v.2.1 v.2.2.1 v.2.2.2.1 v.2.2.2.2.1 v.2.2.2.2.2.1 v.2.2.2.2.2.2.1 v.2.2.2.2.2.2.2.1 v.2.2.2.2.2.2.2.2.1 v.2.2.2.2.2.2.2.2.2.1 v.2.2.2.2.2.2.2.2.2.2) (fun v => S v.2.1 v.2.2.1 v.2.2.2.1 v.2.2.2.2.1 v.2.2.2.2.2.1 v.2.2.2.2.2.2.1 v.2.2.2.2.2.2.2.1 v.2.2.2.2.2.2.2.2.1 v.2.2.2.2.2.2.2.2.2.1 v.2.2.2.2.2.2.2.2.2.2) (fun v => L v.1 v.2.1 v.2.2.1 v.2.2.2.1 v.2.2.2.2.1 v.2.2.2.2.2.1 v.2.2.2.2.2.2.1 v.2.2.2.2.2.2.2.1 v.2.2.2.2.2.2.2.2.1 v.2.2.2.2.2.2.2.2.2.1 v.2.2.2.2.2.2.2.2.2.2 = some r) (fun v => v.1) (m0, b0, b1, b2, b3, b4, b5, b6, b7, b8, b9) h start (fun v hv => ?_)
  obtain ⟨m, a0, a1, a2, a3, a4, a5, a6, a7, a8, a9⟩ := v
  dsimp only at hv ⊢
  cases m with
  | zero => rw [hz] at hv; cases hv
  | succ m =>
    rw [hs] at hv
    refine awp_mono (round (L m) a0 a1 a2 a3 a4 a5 a6 a7 a8 a9 hv) ?_
    intro e af' σ' h'
    cases e with
    | normal =>
      obtain ⟨a0, a1, a2, a3, a4, a5, a6, a7, a8, a9, h3, h4⟩ := h'
      exact ⟨(m, a0, a1, a2, a3, a4, a5, a6, a7, a8, a9), h3, Nat.lt_succ_self m, h4⟩
    | _ => exact h'
theorem k_join10_1 {α0 α1 α2 α3 α4 α5 α6 α7 α8 α9 γ0 : Type} {k : (α0 → α1 → α2 → α3 → α4 → α5 → α6 → α7 → α8 → α9 → Option ρ)} {m : (α0 → α1 → α2 → α3 → α4 → α5 → α6 → α7 → α8 → α9 → Option ρ) → Option ρ} (h : jn k m = some r) (I : α0 → α1 → α2 → α3 → α4 → α5 → α6 → α7 → α8 → α9 → γ0 → AF) (S : α0 → α1 → α2 → α3 → α4 → α5 → α6 → α7 → α8 → α9 → γ0 → Items)
    (h1 : ∀ k' : (α0 → α1 → α2 → α3 → α4 → α5 → α6 → α7 → α8 → α9 → Option ρ), m k' = some r → awp P E n x (den P E n (kI (fun af' σ' => ∃ a0 a1 a2 a3 a4 a5 a6 a7 a8 a9 g0, k' a0 a1 a2 a3 a4 a5 a6 a7 a8 a9 = some r ∧ Sub E n af' σ' (I a0 a1 a2 a3 a4 a5 a6 a7 a8 a9 g0) (S a0 a1 a2 a3 a4 a5 a6 a7 a8 a9 g0)) :: ks)) af σ)
    (h2 : ∀ a0 a1 a2 a3 a4 a5 a6 a7 a8 a9 g0, k a0 a1 a2 a3 a4 a5 a6 a7 a8 a9 = some r → awp P E n y (den P E n ks) (I a0 a1 a2 a3 a4 a5 a6 a7 a8 a9 g0) (S a0 a1 a2 a3 a4 a5 a6 a7 a8 a9 g0)) : awp P E n (.seq x y) (den P E n ks) af σ := by
  refine k_seq (fun a w hh => wp_mono (h1 k h a w hh) ?_)
  rintro e a' w' ⟨af', σ', hh', h'⟩
  cases e with
  | normal =>
    obtain ⟨a0, a1, a2, a3, a4, a5, a6, a7, a8, a9, g0, h3, h4⟩ := h'
    exact ⟨_, _, h4 _ _ hh', h2 a0 a1 a2 a3 a4 a5 a6 a7 a8 a9 g0 h3⟩
  | _ => exact ⟨af', σ', hh', h'⟩
theorem k_loop10_1 {α0 α1 α2 α3 α4 α5 α6 α7 α8 α9 γ0 : Type} (L : Nat → (α0 → α1 → α2 → α3 → α4 → α5 → α6 → α7 → α8 → α9 → Option ρ)) (B : (α0 → α1 → α2 → α3 → α4 → α5 → α6 → α7 → α8 → α9 → Option ρ) → (α0 → α1 → α2 → α3 → α4 → α5 → α6 → α7 → α8 → α9 → Option ρ)) (hz : ∀ a0 a1 a2 a3 a4 a5 a6 a7 a8 a9, L 0 a0 a1 a2 a3 a4 a5 a6 a7 a8 a9 = none) (hs : ∀ m, ∀ a0 a1 a2 a3 a4 a5 a6 a7 a8 a9, L (m + 1) a0 a1 a2 a3 a4 a5 a6 a7 a8 a9 = B (L m) a0 a1 a2 a3 a4 a5 a6 a7 a8 a9) {m0 : Nat} {b0 : α0} {b1 : α1} {b2 : α2} {b3 : α3} {b4 : α4} {b5 : α5} {b6 : α6} {b7 : α7} {b8 : α8} {b9 : α9} (h : L m0 b0 b1 b2 b3 b4 b5 b6 b7 b8 b9 = some r)
    (I : α0 → α1 → α2 → α3 → α4 → α5 → α6 → α7 → α8 → α9 → γ0 → AF) (S : α0 → α1 → α2 → α3 → α4 → α5 → α6 → α7 → α8 → α9 → γ0 → Items) (c0 : γ0) (start : Sub E n af σ (I b0 b1 b2 b3 b4 b5 b6 b7 b8 b9 c0) (S b0 b1 b2 b3 b4 b5 b6 b7 b8 b9 c0))
    (round : ∀ rec : (α0 → α1 → α2 → α3 → α4 → α5 → α6 → α7 → α8 → α9 → Option ρ), ∀ a0 a1 a2 a3 a4 a5 a6 a7 a8 a9 g0, B rec a0 a1 a2 a3 a4 a5 a6 a7 a8 a9 = some r → awp P E n x (den P E n (kI (fun af' σ' => ∃ a0 a1 a2 a3 a4 a5 a6 a7 a8 a9 g0, rec a0 a1 a2 a3 a4 a5 a6 a7 a8 a9 = some r ∧ Sub E n af' σ' (I a0 a1 a2 a3 a4 a5 a6 a7 a8 a9 g0) (S a0 a1 a2 a3 a4 a5 a6 a7 a8 a9 g0)) :: ks)) (I a0 a1 a2 a3 a4 a5 a6 a7 a8 a9 g0) (S a0 a1 a2 a3 a4 a5 a6 a7 a8 a9 g0)) : awp P E n (.loop x) (den P E n ks) af σ := by
  refine awp_loop (α := Nat × α0 × α1 × α2 × α3 × α4 × α5 × α6 × α7 × α8 × α9 × γ0) (fun v => I v.2.1 v.2.2.1 v.2.2.2.1 v.2.2.2.2.1 v.2.2.2.2.2.1 v.2.2.2.2.2.2.1 v.2.2.2.2.2.2.2.1 v.2.2.2.2.2.2.2.2.1 v.2.2.2.2.2.2.2.2.2.1 v.2.2.2.2.2.2.2.2.2.2.1 v.2.2.2.2.2.2.2.2.2.2.2) (fun v => S v.2.1 v.2.2.1 v.2.2.2.1 v.2.2.2.2.1 v.2.2.2.2.2.1 v.2.2.2.2.2.2.1 v.2.2.2.2.2.2.2.1 v.2.2.2.2.2.2.2.2.1 v.2.2.2.2.2.2.2.2.2.1 v.2.2.2.2.2.2.2.2.2.2.1 v.2.2.2.2.2.2.2.2.2.2.2) (fun v => L v.1 v.2.1 v.2.2.1 v.2.2.2.1 v.2.2.2.2.1 v.2.2.2.2.2.1 v.2.2.2.2.2.2.1 v.2.2.2.2.2.2.2.1 v.2.2.2.2.2.2.2.2.1 v.2.2.2.2.2.2.2.2.2.1 v.2.2.2.2.2.2.2.2.2.2.1 = some r) (fun v => v.1) (m0, b0, b1, b2, b3, b4, b5, b6, b7, b8, b9, c0) h start (fun v hv => ?_)
  obtain ⟨m, a0, a1, a2, a3, a4, a5, a6, a7, a8, a9, g0⟩ := v
  dsimp only at hv ⊢
  cases m with
  | zero => rw [hz] at hv; cases hv
  | succ m =>
    rw [hs] at hv
    refine awp_mono (round (L m) a0 a1 a2 a3 a4 a5 a6 a7 a8 a9 g0 hv) ?_
    intro e af' σ' h'
    cases e with
    | normal =>
      obtain ⟨a0, a1, a2, a3, a4, a5, a6, a7, a8, a9, g0, h3, h4⟩ := h'
      exact ⟨(m, a0, a1, a2, a3, a4, a5, a6, a7, a8, a9, g0), h3, Nat.lt_succ_self m, h4⟩
    | _ => exact h'
theorem k_join10_2 {α0 α1 α2 α3 α4 α5 α6 α7 α8 α9 γ0 γ1 : Type} {k : (α0 → α1 → α2 → α3 → α4 → α5 → α6 → α7 → α8 → α9 → Option ρ)} {m : (α0 → α1 → α2 → α3 → α4 → α5 → α6 → α7 → α8 → α9 → Option ρ) → Option ρ} (h : jn k m = some r) (I : α0 → α1 → α2 → α3 → α4 → α5 → α6 → α7 → α8 → α9 → γ0 → γ1 → AF) (S : α0 → α1 → α2 → α3 → α4 → α5 → α6 → α7 → α8 → α9 → γ0 → γ1 → Items)
    (h1 : ∀ k' : (α0 → α1 → α2 → α3 → α4 → α5 → α6 → α7 → α8 → α9 → Option ρ), m k' = some r → awp P E n x (den P E n (kI (fun af' σ' => ∃ a0 a1 a2 a3 a4 a5 a6 a7 a8 a9 g0 g1, k' a0 a1 a2 a3 a4 a5 a6 a7 a8 a9 = some r ∧ Sub E n af' σ' (I a0 a1 a2 a3 a4 a5 a6 a7 a8 a9 g0 g1) (S a0 a1 a2 a3 a4 a5 a6 a7 a8 a9 g0 g1)) :: ks)) af σ)
    (h2 : ∀ a0 a1 a2 a3 a4 a5 a6 a7 a8 a9 g0 g1, k a0 a1 a2 a3 a4 a5 a6 a7 a8 a9 = some r → awp P E n y (den P E n ks) (I a0 a1 a2 a3 a4 a5 a6 a7 a8 a9 g0 g1) (S a0 a1 a2 a3 a4 a5 a6 a7 a8 a9 g0 g1)) : awp P E n (.seq x y) (den P E n ks) af σ := by
  refine k_seq (fun a w hh => wp_mono (h1 k h a w hh) ?_)
  rintro e a' w' ⟨af', σ', hh', h'⟩
  cases e with
  | normal =>
    obtain ⟨a0, a1, a2, a3, a4, a5, a6, a7, a8, a9, g0, g1, h3, h4⟩ := h'
    exact ⟨_, _, h4 _ _ hh', h2 a0 a1 a2 a3 a4 a5 a6 a7 a8 a9 g0 g1 h3⟩
  | _ => exact ⟨af', σ', hh', h'⟩
theorem k_loop10_2 {α0 α1 α2 α3 α4 α5 α6 α7 α8 α9 γ0 γ1 : Type} (L : Nat → (α0 → α1 → α2 → α3 → α4 → α5 → α6 → α7 → α8 → α9 → Option ρ)) (B : (α0 → α1 → α2 → α3 → α4 → α5 → α6 → α7 → α8 → α9 → Option ρ) → (α0 → α1 → α2 → α3 → α4 → α5 → α6 → α7 → α8 → α9 → Option ρ)) (hz : ∀ a0 a1 a2 a3 a4 a5 a6 a7 a8 a9, L 0 a0 a1 a2 a3 a4 a5 a6 a7 a8 a9 = none) (hs : ∀ m, ∀ a0 a1 a2 a3 a4 a5 a6 a7 a8 a9, L (m + 1) a0 a1 a2 a3 a4 a5 a6 a7 a8 a9 = B (L m) a0 a1 a2 a3 a4 a5 a6 a7 a8 a9) {m0 : Nat} {b0 : α0} {b1 : α1} {b2 : α2} {b3 : α3} {b4 : α4} {b5 : α5} {b6 : α6} {b7 : α7} {b8 : α8} {b9 : α9} (h : L m0 b0 b1 b2 b3 b4 b5 b6 b7 b8 b9 = some r)
    (I : α0 → α1 → α2 → α3 → α4 → α5 → α6 → α7 → α8 → α9 → γ0 → γ1 → AF) (S : α0 → α1 → α2 → α3 → α4 → α5 → α6 → α7 → α8 → α9 → γ0 → γ1 → Items) (c0 : γ0) (c1 : γ1) (start : Sub E n af σ (I b0 b1 b2 b3 b4 b5 b6 b7 b8 b9 c0 c1) (S b0 b1 b2 b3 b4 b5 b6 b7 b8 b9 c0 c1))
    (round : ∀ rec : (α0 → α1 → α2 → α3 → α4 → α5 → α6 → α7 → α8 → α9 → Option ρ), ∀ a0 a1 a2 a3 a4 a5 a6 a7 a8 a9 g0 g1, B rec a0 a1 a2 a3 a4 a5 a6 a7 a8 a9 = some r → awp P E n x (den P E n (kI (fun af' σ' => ∃ a0 a1 a2 a3 a4 a5 a6 a7 a8 a9 g0 g1, rec a0 a1 a2 a3 a4 a5 a6 a7 a8 a9 = some r ∧ Sub E n af' σ' (I a0 a1 a2 a3 a4 a5 a6 a7 a8 a9 g0 g1) (S a0 a1 a2 a3 a4 a5 a6 a7 a8 a9 g0 g1)) :: ks)) (I a0 a1 a2 a3 a4 a5 a6 a7 a8 a9 g0 g1) (S a0 a1 a2 a3 a4 a5 a6 a7 a8 a9 g0 g1)) : awp P E n (.loop x) (den P E n ks) af σ := by
  refine awp_loop (α := Nat × α0 × α1 × α2 × α3 × α4 × α5 × α6 × α7 × α8 × α9 × γ0 × γ1) (fun v => I v.2.1 v.2.2.1 v.2.2.2.1 v.2.2.2.2.1 v.2.2.2.2.2.1 v.2.2.2.2.2.2.1 v.2.2.2.2.2.2.2.1 v.2.2.2.2.2.2.2.2.1 v.2.2.2.2.2.2.2.2.2.1 v.2.2.2.2.2.2.2.2.2.2.1 v.2.2.2.2.2.2.2.2.2.2.2.1 v.2.2.2.2.2.2.2.2.2.2.2.2) (fun v => S v.2.1 v.2.2.1 v.2.2.2.1 v.2.2.2.2.1 v.2.2.2.2.2.1 v.2.2.2.2.2.2.1 v.2.2.2.2.2.2.2.1 v.2.2.2.2.2.2.2.2.1 v.2.2.2.2.2.2.2.2.2.1 v.2.2.2.2.2.2.2.2.2.2.1 v.2.2.2.2.2.2.2.2.2.2.2.1 v.2.2.2.2.2.2.2.2.2.2.2.2) (fun v => L v.1 v.2.1 v.2.2.1 v.2.2.2.1 v.2.2.2.2.1 v.2.2.2.2.2.1 v.2.2.2.2.2.2.1 v.2.2.2.2.2.2.2.1 v.2.2.2.2.2.2.2.2.1 v.2.2.2.2.2.2.2.2.2.1 v.2.2.2.2.2.2.2.2.2.2.1 = some r) (fun v => v.1) (m0, b0, b1, b2, b3, b4, b5, b6, b7, b8, b9, c0, c1) h start (fun v hv => ?_)
  obtain ⟨m, a0, a1, a2, a3, a4, a5, a6, a7, a8, a9, g0, g1⟩ := v
  dsimp only at hv ⊢
  cases m with
  | zero => rw [hz] at hv; cases hv
  | succ m =>
    rw [hs] at hv
    refine awp_mono (round (L m) a0 a1 a2 a3 a4 a5 a6 a7 a8 a9 g0 g1 hv) ?_
    intro e af' σ' h'
    cases e with
    | normal =>
      obtain ⟨a0, a1, a2, a3, a4, a5, a6, a7, a8, a9, g0, g1, h3, h4⟩ := h'
      exact ⟨(m, a0, a1, a2, a3, a4, a5, a6, a7, a8, a9, g0, g1), h3, Nat.lt_succ_self m, h4⟩
    | _ => exact h'
theorem k_join10_3 {α0 α1 α2 α3 α4 α5 α6 α7 α8 α9 γ0 γ1 γ2 : Type} {k : (α0 → α1 → α2 → α3 → α4 → α5 → α6 → α7 → α8 → α9 → Option ρ)} {m : (α0 → α1 → α2 → α3 → α4 → α5 → α6 → α7 → α8 → α9 → Option ρ) → Option ρ} (h : jn k m = some r) (I : α0 → α1 → α2 → α3 → α4 → α5 → α6 → α7 → α8 → α9 → γ0 → γ1 → γ2 → AF) (S : α0 → α1 → α2 → α3 → α4 → α5 → α6 → α7 → α8 → α9 → γ0 → γ1 → γ2 → Items)
    (h1 : ∀ k' : (α0 → α1 → α2 → α3 → α4 → α5 → α6 → α7 → α8 → α9 → Option ρ), m k' = some r → awp P E n x (den P E n (kI (fun af' σ' => ∃ a0 a1 a2 a3 a4 a5 a6 a7 a8 a9 g0 g1 g2, k' a0 a1 a2 a3 a4 a5 a6 a7 a8 a9 = some r ∧ Sub E n af' σ' (I a0 a1 a2 a3 a4 a5 a6 a7 a8 a9 g0 g1 g2) (S a0 a1 a2 a3 a4 a5 a6 a7 a8 a9 g0 g1 g2)) :: ks)) af σ)
    (h2 : ∀ a0 a1 a2 a3 a4 a5 a6 a7 a8 a9 g0 g1 g2, k a0 a1 a2 a3 a4 a5 a6 a7 a8 a9 = some r → awp P E n y (den P E n ks) (I a0 a1 a2 a3 a4 a5 a6 a7 a8 a9 g0 g1 g2) (S a0 a1 a2 a3 a4 a5 a6 a7 a8 a9 g0 g1 g2)) : awp P E n (.seq x y) (den P E n ks) af σ := by
  refine k_seq (fun a w hh => wp_mono (h1 k h a w hh) ?_)
  rintro e a' w' ⟨af', σ', hh', h'⟩
  cases e with
  | normal =>
    obtain ⟨a0, a1, a2, a3, a4, a5, a6, a7, a8, a9, g0, g1, g2, h3, h4⟩ := h'
    exact ⟨_, _, h4 _ _ hh', h2 a0 a1 a2 a3 a4 a5 a6 a7 a8 a9 g0 g1 g2 h3⟩
  | _ => exact ⟨af', σ', hh', h'⟩
theorem k_loop10_3 {α0 α1 α2 α3 α4 α5 α6 α7 α8 α9 γ0 γ1 γ2 : Type} (L : Nat → (α0 → α1 → α2 → α3 → α4 → α5 → α6 → α7 → α8 → α9 → Option ρ)) (B : (α0 → α1 → α2 → α3 → α4 → α5 → α6 → α7 → α8 → α9 → Option ρ) → (α0 → α1 → α2 → α3 → α4 → α5 → α6 → α7 → α8 → α9 → Option ρ)) (hz : ∀ a0 a1 a2 a3 a4 a5 a6 a7 a8 a9, L 0 a0 a1 a2 a3 a4 a5 a6 a7 a8 a9 = none) (hs : ∀ m, ∀ a0 a1 a2 a3 a4 a5 a6 a7 a8 a9, L (m + 1) a0 a1 a2 a3 a4 a5 a6 a7 a8 a9 = B (L m) a0 a1 a2 a3 a4 a5 a6 a7 a8 a9) {m0 : Nat} {b0 : α0} {b1 : α1} {b2 : α2} {b3 : α3} {b4 : α4} {b5 : α5} {b6 : α6} {b7 : α7} {b8 : α8} {b9 : α9} (h : L m0 b0 b1 b2 b3 b4 b5 b6 b7 b8 b9 = some r)
    (I : α0 → α1 → α2 → α3 → α4 → α5 → α6 → α7 → α8 → α9 → γ0 → γ1 → γ2 → AF) (S : α0 → α1 → α2 → α3 → α4 → α5 → α6 → α7 → α8 → α9 → γ0 → γ1 → γ2 → Items) (c0 : γ0) (c1 : γ1) (c2 : γ2) (start : Sub E n af σ (I b0 b1 b2 b3 b4 b5 b6 b7 b8 b9 c0 c1 c2) (S b0 b1 b2 b3 b4 b5 b6 b7 b8 b9 c0 c1 c2))
    (round : ∀ rec : (α0 → α1 → α2 → α3 → α4 → α5 → α6 → α7 → α8 → α9 → Option ρ), ∀ a0 a1 a2 a3 a4 a5 a6 a7 a8 a9 g0 g1 g2, B rec a0 a1 a2 a3 a4 a5 a6 a7 a8 a9 = some r → awp P E n x (den P E n (kI (fun af' σ' => ∃ a0 a1 a2 a3 a4 a5 a6 a7 a8 a9 g0 g1 g2, rec a0 a1 a2 a3 a4 a5 a6 a7 a8 a9 = some r ∧ Sub E n af' σ' (I a0 a1 a2 a3 a4 a5 a6 a7 a8 a9 g0 g1 g2) (S a0 a1 a2 a3 a4 a5 a6 a7 a8 a9 g0 g1 g2)) :: ks)) (I a0 a1 a2 a3 a4 a5 a6 a7 a8 a9 g0 g1 g2) (S a0 a1 a2 a3 a4 a5 a6 a7 a8 a9 g0 g1 g2)) : awp P E n (.loop x) (den P E n ks) af σ := by
  refine awp_loop (α := Nat × α0 × α1 × α2 × α3 × α4 × α5 × α6 × α7 × α8 × α9 × γ0 × γ1 × γ2) (fun v => I v.2.1 v.2.2.1 v.2.2.2.1 v.2.2.2.2.1 v.2.2.2.2.2.1 v.2.2.2.2.2.2.1 v.2.2.2.2.2.2.2.1 v.2.2.2.2.2.2.2.2.1 v.2.2.2.2.2.2.2.2.2.1 v.2.2.2.2.2.2.2.2.2.2.1 v.2.2.2.2.2.2.2.2.2.2.2.1 v.2.2.2.2.2.2.2.2.2.2.2.2.1 v.2.2.2.2.2.2.2.2.2.2.2.2.2) (fun v => S v.2.1 v.2.2.1 v.2.2.2.1 v.2.2.2.2.1 v.2.2.2.2.2.1 v.2.2.2.2.2.2.1 v.2.2.2.2.2.2.2.1 v.2.2.2.2.2.2.2.2.1 v.2.2.2.2.2.2.2.2.2.1 v.2.2.2.2.2.2.2.2.2.2.1 v.2.2.2.2.2.2.2.2.2.2.2.1 v.2.2.2.2.2.2.2.2.2.2.2.2.1 v.2.2.2.2.2.2.2.2.2.2.2.2.2) (fun v => L v.1 v.2.1 v.2.2.1 v.2.2.2.1 v.2.2.2.2.1 v.2.2.2.2.2.1 v.2.2.2.2.2.2.1 v.2.2.2.2.2.2.2.1 v.2.2.2.2.2.2.2.2.1 v.2.2.2.2.2.2.2.2.2.1 v.2.2.2.2.2.2.2.2.2.2.1 = some r) (fun v => v.1) (m0, b0, b1, b2, b3, b4, b5, b6, b7, b8, b9, c0, c1, c2) h start (fun v hv => ?_)
  obtain ⟨m, a0, a1, a2, a3, a4, a5, a6, a7, a8, a9, g0, g1, g2⟩ := v
  dsimp only at hv ⊢
  cases m with
  | zero => rw [hz] at hv; cases hv
  | succ m =>
    rw [hs] at hv
    refine awp_mono (round (L m) a0 a1 a2 a3 a4 a5 a6 a7 a8 a9 g0 g1 g2 hv) ?_
    intro e af' σ' h'
    cases e with
    | normal =>
      obtain ⟨a0, a1, a2, a3, a4, a5, a6, a7, a8, a9, g0, g1, g2, h3, h4⟩ := h'
      exact ⟨(m, a0, a1, a2, a3, a4, a5, a6, a7, a8, a9, g0, g1, g2), h3, Nat.lt_succ_self m, h4⟩
    | _ => exact h'
theorem k_join10_4 {α0 α1 α2 α3 α4 α5 α6 α7 α8 α9 γ0 γ1 γ2 γ3 : Type} {k : (α0 → α1 → α2 → α3 → α4 → α5 → α6 → α7 → α8 → α9 → Option ρ)} {m : (α0 → α1 → α2 → α3 → α4 → α5 → α6 → α7 → α8 → α9 → Option ρ) → Option ρ} (h : jn k m = some r) (I : α0 → α1 → α2 → α3 → α4 → α5 → α6 → α7 → α8 → α9 → γ0 → γ1 → γ2 → γ3 → AF) (S : α0 → α1 → α2 → α3 → α4 → α5 → α6 → α7 → α8 → α9 → γ0 → γ1 → γ2 → γ3 → Items)
    (h1 : ∀ k' : (α0 → α1 → α2 → α3 → α4 → α5 → α6 → α7 → α8 → α9 → Option ρ), m k' = some r → awp P E n x (den P E n (kI (fun af' σ' => ∃ a0 a1 a2 a3 a4 a5 a6 a7 a8 a9 g0 g1 g2 g3, k' a0 a1 a2 a3 a4 a5 a6 a7 a8 a9 = some r ∧ Sub E n af' σ' (I a0 a1 a2 a3 a4 a5 a6 a7 a8 a9 g0 g1 g2 g3) (S a0 a1 a2 a3 a4 a5 a6 a7 a8 a9 g0 g1 g2 g3)) :: ks)) af σ)
    (h2 : ∀ a0 a1 a2 a3 a4 a5 a6 a7 a8 a9 g0 g1 g2 g3, k a0 a1 a2 a3 a4 a5 a6 a7 a8 a9 = some r → awp P E n y (den P E n ks) (I a0 a1 a2 a3 a4 a5 a6 a7 a8 a9 g0 g1 g2 g3) (S a0 a1 a2 a3 a4 a5 a6 a7 a8 a9 g0 g1 g2 g3)) : awp P E n (.seq x y) (den P E n ks) af σ := by
  refine k_seq (fun a w hh => wp_mono (h1 k h a w hh) ?_)
  rintro e a' w' ⟨af', σ', hh', h'⟩
  cases e with
  | normal =>
    obtain ⟨a0, a1, a2, a3, a4, a5, a6, a7, a8, a9, g0, g1, g2, g3, h3, h4⟩ := h'
    exact ⟨_, _, h4 _ _ hh', h2 a0 a1 a2 a3 a4 a5 a6 a7 a8 a9 g0 g1 g2 g3 h3⟩
  | _ => exact ⟨af', σ', hh', h'⟩
theorem k_loop10_4 {α0 α1 α2 α3 α4 α5 α6 α7 α8 α9 γ0 γ1 γ2 γ3 : Type} (L : Nat → (α0 → α1 → α2 → α3 → α4 → α5 → α6 → α7 → α8 → α9 → Option ρ)) (B : (α0 → α1 → α2 → α3 → α4 → α5 → α6 → α7 → α8 → α9 → Option ρ) → (α0 → α1 → α2 → α3 → α4 → α5 → α6 → α7 → α8 → α9 → Option ρ)) (hz : ∀ a0 a1 a2 a3 a4 a5 a6 a7 a8 a9, L 0 a0 a1 a2 a3 a4 a5 a6 a7 a8 a9 = none) (hs : ∀ m, ∀ a0 a1 a2 a3 a4 a5 a6 a7 a8 a9, L (m + 1) a0 a1 a2 a3 a4 a5 a6 a7 a8 a9 = B (L m) a0 a1 a2 a3 a4 a5 a6 a7 a8 a9) {m0 : Nat} {b0 : α0} {b1 : α1} {b2 : α2} {b3 : α3} {b4 : α4} {b5 : α5} {b6 : α6} {b7 : α7} {b8 : α8} {b9 : α9} (h : L m0 b0 b1 b2 b3 b4 b5 b6 b7 b8 b9 = some r)
    (I : α0 → α1 → α2 → α3 → α4 → α5 → α6 → α7 → α8 → α9 → γ0 → γ1 → γ2 → γ3 → AF) (S : α0 → α1 → α2 → α3 → α4 → α5 → α6 → α7 → α8 → α9 → γ0 → γ1 → γ2 → γ3 → Items) (c0 : γ0) (c1 : γ1) (c2 : γ2) (c3 : γ3) (start : Sub E n af σ (I b0 b1 b2 b3 b4 b5 b6 b7 b8 b9 c0 c1 c2 c3) (S b0 b1 b2 b3 b4 b5 b6 b7 b8 b9 c0 c1 c2 c3))
    (round : ∀ rec : (α0 → α1 → α2 → α3 → α4 → α5 → α6 → α7 → α8 → α9 → Option ρ), ∀ a0 a1 a2 a3 a4 a5 a6 a7 a8 a9 g0 g1 g2 g3, B rec a0 a1 a2 a3 a4 a5 a6 a7 a8 a9 = some r → awp P E n x (den P E n (kI (fun af' σ' => ∃ a0 a1 a2 a3 a4 a5 a6 a7 a8 a9 g0 g1 g2 g3, rec a0 a1 a2 a3 a4 a5 a6 a7 a8 a9 = some r ∧ Sub E n af' σ' (I a0 a1 a2 a3 a4 a5 a6 a7 a8 a9 g0 g1 g2 g3) (S a0 a1 a2 a3 a4 a5 a6 a7 a8 a9 g0 g1 g2 g3)) :: ks)) (I a0 a1 a2 a3 a4 a5 a6 a7 a8 a9 g0 g1 g2 g3) (S a0 a1 a2 a3 a4 a5 a6 a7 a8 a9 g0 g1 g2 g3)) : awp P E n (.loop x) (den P E n ks) af σ := by
  refine awp_loop (α := Nat × α0 × α1 × α2 × α3 × α4 × α5 × α6 × α7 × α8 × α9 × γ0 × γ1 × γ2 × γ3) (fun v => I v.2.1 v.2.2.1 v.2.2.2.1 v.2.2.2.2.1 v.2.2.2.2.2.1 v.2.2.2.2.2.2.1 v.2.2.2.2.2.2.2.1 v.2.2.2.2.2.2.2.2.1 v.2.2.2.2.2.2.2.2.2.1 v.2.2.2.2.2.2.2.2.2.2.1 v.2.2.2.2.2.2.2.2.2.2.2.1 v.2.2.2.2.2.2.2.2.2.2.2.2.1 v.2.2.2.2.2.2.2.2.2.2.2.2.2.1 v.2.2.2.2.2.2.2.2.2.2.2.2.2.2) (fun v => S v.2.1 v.2.2.1 v.2.2.2.1 v.2.2.2.2.1 v.2.2.2.2.2.1 v.2.2.2.2.2.2.1 v.2.2.2.2.2.2.2.1 v.2.2.2.2.2.2.2.2.1 v.2.2.2.2.2.2.2.2.2.1 v.2.2.2.2.2.2.2.2.2.2.1 v.2.2.2.2.2.2.2.2.2.2.2.1 v.2.2.2.2.2.2.2.2.2.2.2.2.1 v.2.2.2.2.2.2.2.2.2.2.2.2.2.1 v.2.2.2.2.2.2.2.2.2.2.2.2.2.2) (fun v => L v.1 v.2.1 v.2.2.1 v.2.2.2.1 v.2.2.2.2.1 v.2.2.2.2.2.1 v.2.2.2.2.2.2.1 v.2.2.2.2.2.2.2.1 v.2.2.2.2.2.2.2.2.1 v.2.2.2.2.2.2.2.2.2.1 v.2.2.2.2.2.2.2.2.2.2.1 = some r) (fun v => v.1) (m0, b0, b1, b2, b3, b4, b5, b6, b7, b8, b9, c0, c1, c2, c3) h start (fun v hv => ?_)
  obtain ⟨m, a0, a1, a2, a3, a4, a5, a6, a7, a8, a9, g0, g1, g2, g3⟩ := v
  dsimp only at hv ⊢
  cases m with
  | zero => rw [hz] at hv; cases hv
  | succ m =>
    rw [hs] at hv
    refine awp_mono (round (L m) a0 a1 a2 a3 a4 a5 a6 a7 a8 a9 g0 g1 g2 g3 hv) ?_
    intro e af' σ' h'
    cases e with
    | normal =>
      obtain ⟨a0, a1, a2, a3, a4, a5, a6, a7, a8, a9, g0, g1, g2, g3, h3, h4⟩ := h'
      exact ⟨(m, a0, a1, a2, a3, a4, a5, a6, a7, a8, a9, g0, g1, g2, g3), h3, Nat.lt_succ_self m, h4⟩
    | _ => exact h'
end
end Go.Proofs.Ytkplmgdmkfgjhaa
