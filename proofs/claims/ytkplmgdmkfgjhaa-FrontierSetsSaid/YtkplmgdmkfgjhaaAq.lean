/- Regions some of whose operations change what is in use; calls that do. -/
import Derived.Test.YtkplmgdmkfgjhaaAp
namespace Go.Proofs.Ytkplmgdmkfgjhaa
open Go.RowKit

section
variable {P : Program} {ops : Array Oper} {E : Env} {n : Nat} {QA : Exit → AF → Items → Prop} {af : AF} {σ : Items}

/-- Which operations are taken for quiet: all but append, stores, and calls of the functions named. -/
def quietKind (louds : List FuncId) (o : Oper) : Bool :=
  match o.op with
  | .call { callee := .builtin .append, .. } => false
  | .call { callee := .value (.func f), .. } => !louds.contains f
  | .call { callee := .builtin .copy, .. } | .call { callee := .builtin .delete, .. } | .call { callee := .builtin .clear, .. } => false
  | .box .. | .alloc .. => !(match o.dst with | some d => louds.contains (1000000 + d) | none => false)
  | .store .. | .mapUpdate .. | .insert .. | .entryStore .. | .mapEntry .. => false
  | _ => true

/-- The operation, changing perhaps what is in use, and what follows. -/
def opB (P : Program) (o : Oper) (af : AF) (σ : Items) (K : AF → Items → Prop) : Prop := ∃ post, Loud P o af σ post ∧ ∀ av σ', post av σ' → K (af.put o.dst av) σ'

def wpM (P : Program) (ops : Array Oper) (louds : List FuncId) (K : AF → Items → Prop) : List Oper → AF → Items → Prop
  | [], af, σ => K af σ
  | o :: rest, af, σ => (quietKind louds o = true ∧ ∃ av, YieldsA P ops o av af ∧ wpM P ops louds K rest (af.put o.dst av) σ) ∨
      (quietKind louds o = false ∧ ((Sat ops o af false ∧ wpM P ops louds K rest (af.put o.dst undefA) σ) ∨ (Sat ops o af true ∧ opB P o af σ (wpM P ops louds K rest))))

def lexMB (ops : Array Oper) (louds : List FuncId) : List Oper → Nat → Array Bool → Bool
  | [], _, listed => (Region.ready .any ops listed).isEmpty
  | o :: rest, k, listed => (bif quietKind louds o then (Region.ready .any ops listed).contains k && Region.free .any ops listed k else (Region.ready .any ops listed) == [k]) && lexMB ops louds rest (k + 1) (listed.setIfInBounds k true)

theorem stepA_of_M {louds : List FuncId} {K : AF → Items → Prop} {k : Nat} {o : Oper} {rest : List Oper} (h0 : ops[k]? = some o) (h : wpM P ops louds K (o :: rest) af σ) : stepA P ops k (wpM P ops louds K rest) af σ := by
  rcases h with ⟨_, av, hy, hK⟩ | ⟨_, h⟩
  · exact hy.step h0 hK
  · unfold stepA; simp only [h0]; exact h

theorem anyA_of_lexM {louds : List FuncId} {K : AF → Items → Prop} : ∀ (l : List Oper) (k : Nat) (listed : Array Bool) (af : AF) (σ : Items), (∀ j, l[j]? = ops[k + j]?) →
    lexMB ops louds l k listed = true → wpM P ops louds K l af σ → anyA P ops K l.length listed af σ
  | [], _, _, _, _, _, hB, h => ⟨by simpa [lexMB] using hB, h⟩
  | o :: l, k, listed, af, σ, hl, hB, h => by
    have h0 : ops[k]? = some o := by simpa using (hl 0).symm
    have hl' : ∀ j, l[j]? = ops[k + 1 + j]? := fun j => by have := hl (j + 1); simpa [Nat.add_assoc, Nat.add_comm 1 j] using this
    simp only [lexMB, Bool.and_eq_true] at hB
    obtain ⟨hB1, hB2⟩ := hB
    have hst := stepA_of_M h0 h
    rcases h with ⟨hq, av, hy, hK⟩ | ⟨hq, h⟩
    · rw [hq] at hB1
      simp only [cond_true, Bool.and_eq_true] at hB1
      exact anyA_first h0 l.length listed af σ (Region.free_spec h0 hB1.2) (by simpa using hB1.1) hy (anyA_of_lexM l (k + 1) _ _ σ hl' hB2 hK)
    · rw [hq] at hB1
      simp only [cond_false, beq_iff_eq] at hB1
      refine ⟨fun h0 => (by rw [h0] at hB1; cases hB1), fun j hj => ?_⟩
      rw [hB1] at hj
      obtain rfl : j = k := by simpa using hj
      exact stepA_mono (fun af' σ' hr => anyA_of_lexM l (j + 1) _ af' σ' hl' hB2 hr) hst

theorem wpOps_of_lexM {louds : List FuncId} (hd : dstB ops n = true) : ∀ (l : List Oper) (k : Nat) (af : AF) (σ : Items) (a : Act) (w : World), (∀ j, l[j]? = ops[k + j]?) →
    wpM P ops louds (QA .normal) l af σ → Holds E n af σ a w → wpOps P ops (PostA E n QA) (List.range' k l.length) a w
  | [], _, af, σ, _, _, _, h, hh => ⟨af, σ, hh, h⟩
  | o :: l, k, af, σ, a, w, hl, h, hh => by
    have h0 : ops[k]? = some o := by simpa using (hl 0).symm
    rw [List.length_cons, List.range'_succ, wpOps_cons]
    exact wpOp_mono (fun a' w' ⟨af', σ', hh', h'⟩ => wpOps_of_lexM hd l (k + 1) af' σ' a' w' (fun j => by have := hl (j + 1); simpa [Nat.add_assoc, Nat.add_comm 1 j] using this) h' hh') (wpOp_of_stepA hd (stepA_of_M h0 h) hh)

def lexMBB (louds : List FuncId) (l : List Oper) (n : Nat) (draw : Bool) : Bool := dstB l.toArray n && (!draw || lexMB l.toArray louds l 0 (Array.replicate l.length false))
theorem k_mix {louds : List FuncId} {ks : List KFr} {id : Nat} {l : List Oper} {draw : Bool} (hm : P.follows .mixedOrders = true) (hB : lexMBB louds l n draw = true)
    (h : wpM P l.toArray louds (den P E n ks .normal) l af σ) : awp P E n (.region id l.toArray draw) (den P E n ks) af σ := by
  simp only [lexMBB, Bool.and_eq_true] at hB
  intro a w hh
  cases draw with
  | true =>
    refine wp_region_any hm ?_
    have h1 := anyA_of_lexM l 0 (Array.replicate l.length false) af σ (by simp) (by simpa using hB.2) h
    simpa using wpAny_of_anyA hB.1 _ _ af σ a _ h1 hh.drew
  | false =>
    refine wp_region ?_
    have h1 := wpOps_of_lexM hB.1 l 0 af σ a w (by simp) h hh
    simpa [List.range_eq_range'] using h1

variable {louds : List FuncId} {KK : AF → Items → Prop} {rest : List Oper} {dst : Option Tmp} {op : Op} {ty0 : TypeId} {pos0 : String} {after0 : Array Edge} {gd : Option (Nat × Bool)}
theorem wpM_nil (h : KK af σ) : wpM P ops louds KK [] af σ := h
theorem wpM_q (hq : quietKind louds ⟨dst, op, ty0, pos0, after0, none⟩ = true) (h : opA P ⟨dst, op, ty0, pos0, after0, none⟩ af (fun af' => wpM P ops louds KK rest af' σ)) : wpM P ops louds KK (⟨dst, op, ty0, pos0, after0, none⟩ :: rest) af σ := by
  obtain ⟨av, hqq, hk⟩ := h
  exact .inl ⟨hq, av, .inr ⟨.inl ⟨rfl, rfl⟩, hqq⟩, hk⟩
theorem wpM_l (hq : quietKind louds ⟨dst, op, ty0, pos0, after0, none⟩ = false) (h : opB P ⟨dst, op, ty0, pos0, after0, none⟩ af σ (wpM P ops louds KK rest)) : wpM P ops louds KK (⟨dst, op, ty0, pos0, after0, none⟩ :: rest) af σ :=
  .inr ⟨hq, .inr ⟨.inl ⟨rfl, rfl⟩, h⟩⟩
/-- Either way, if wanted. -/
def opM (P : Program) (louds : List FuncId) (o : Oper) (af : AF) (σ : Items) (K : AF → Items → Prop) : Prop := (quietKind louds o = true ∧ opA P o af (fun af' => K af' σ)) ∨ (quietKind louds o = false ∧ opB P o af σ K)
theorem opM_q {o : Oper} {K : AF → Items → Prop} (hq : quietKind louds o = true) (h : opA P o af (fun af' => K af' σ)) : opM P louds o af σ K := .inl ⟨hq, h⟩
theorem opM_l {o : Oper} {K : AF → Items → Prop} (hq : quietKind louds o = false) (h : opB P o af σ K) : opM P louds o af σ K := .inr ⟨hq, h⟩
variable {j : Nat} {want : Bool} {dg : Tmp} {c : Bool} {p : Prop} [Decidable p]
theorem wpM_g (hj : (ops[j]?).bind (·.dst) = some dg) (hv : af dg = .exact (.bool c))
    (h1 : (c == want) = true → opM P louds ⟨dst, op, ty0, pos0, after0, some (j, want)⟩ af σ (wpM P ops louds KK rest))
    (h2 : (c == want) = false → wpM P ops louds KK rest (af.put dst undefA) σ) : wpM P ops louds KK (⟨dst, op, ty0, pos0, after0, some (j, want)⟩ :: rest) af σ := by
  by_cases hc : (c == want) = true
  · have hs : Sat ops ⟨dst, op, ty0, pos0, after0, some (j, want)⟩ af true := .inr ⟨j, want, dg, .bool c, rfl, hj, hv, (by show _ = (some c == some want); simpa using hc.symm)⟩
    rcases h1 hc with ⟨hq, av, hqq, hk⟩ | ⟨hq, hb⟩
    · exact .inl ⟨hq, av, .inr ⟨hs, hqq⟩, hk⟩
    · exact .inr ⟨hq, .inr ⟨hs, hb⟩⟩
  · have hc' : (c == want) = false := by simpa using hc
    have hs : Sat ops ⟨dst, op, ty0, pos0, after0, some (j, want)⟩ af false := .inr ⟨j, want, dg, .bool c, rfl, hj, hv, (by show _ = (some c == some want); simpa using hc'.symm)⟩
    cases hq : quietKind louds ⟨dst, op, ty0, pos0, after0, some (j, want)⟩ with
    | true => exact .inl ⟨hq, undefA, .inl ⟨hs, rfl⟩, h2 hc'⟩
    | false => exact .inr ⟨hq, .inl ⟨hs, h2 hc'⟩⟩
theorem wpM_yes (hj : (ops[j]?).bind (·.dst) = some dg) (hv : af dg = .exact (.bool want))
    (h1 : opM P louds ⟨dst, op, ty0, pos0, after0, some (j, want)⟩ af σ (wpM P ops louds KK rest)) : wpM P ops louds KK (⟨dst, op, ty0, pos0, after0, some (j, want)⟩ :: rest) af σ :=
  wpM_g hj hv (fun _ => h1) (fun h => by simp at h)
theorem wpM_no (hj : (ops[j]?).bind (·.dst) = some dg) (hv : af dg = .exact (.bool (!want)))
    (h2 : wpM P ops louds KK rest (af.put dst undefA) σ) : wpM P ops louds KK (⟨dst, op, ty0, pos0, after0, some (j, want)⟩ :: rest) af σ :=
  wpM_g hj hv (fun h => by simp at h) (fun _ => h2)
theorem put_known {b : Bool} (hv : af dg = .exact (.bool (decide p))) (hb : decide p = b) : af.put (some dg) (.exact (.bool b)) = af := by
  funext t
  by_cases ht : t = dg
  · subst ht; rw [AF.put_same, hv, hb]
  · rw [AF.put_other _ _ ht]
theorem wpM_gt (hj : (ops[j]?).bind (·.dst) = some dg) (hv : af dg = .exact (.bool (decide p)))
    (h1 : p → opM P louds ⟨dst, op, ty0, pos0, after0, some (j, true)⟩ (af.put (some dg) (.exact (.bool true))) σ (wpM P ops louds KK rest))
    (h2 : ¬ p → wpM P ops louds KK rest ((af.put (some dg) (.exact (.bool false))).put dst undefA) σ) : wpM P ops louds KK (⟨dst, op, ty0, pos0, after0, some (j, true)⟩ :: rest) af σ := by
  by_cases hp : p
  · have hd : decide p = true := by simp [hp]
    rw [put_known hv hd] at h1
    exact wpM_yes hj (by rw [hv, hd]) (h1 hp)
  · have hd : decide p = false := by simp [hp]
    rw [put_known hv hd] at h2
    exact wpM_no hj (by rw [hv, hd]; rfl) (h2 hp)
theorem wpM_gf (hj : (ops[j]?).bind (·.dst) = some dg) (hv : af dg = .exact (.bool (decide p)))
    (h1 : ¬ p → opM P louds ⟨dst, op, ty0, pos0, after0, some (j, false)⟩ (af.put (some dg) (.exact (.bool false))) σ (wpM P ops louds KK rest))
    (h2 : p → wpM P ops louds KK rest ((af.put (some dg) (.exact (.bool true))).put dst undefA) σ) : wpM P ops louds KK (⟨dst, op, ty0, pos0, after0, some (j, false)⟩ :: rest) af σ := by
  by_cases hp : p
  · have hd : decide p = true := by simp [hp]
    rw [put_known hv hd] at h2
    exact wpM_no hj (by rw [hv, hd]; rfl) (h2 hp)
  · have hd : decide p = false := by simp [hp]
    rw [put_known hv hd] at h1
    exact wpM_yes hj (by rw [hv, hd]) (h1 hp)

/-! ### Calls -/
def LEs : List AV → List AV → Prop
  | [], [] => True
  | x :: xs, y :: ys => AV.le x y ∧ LEs xs ys
  | _, _ => False
theorem LEs.nil : LEs [] [] := trivial
theorem LEs.cons {x y : AV} {xs ys : List AV} (h : AV.le x y) (h' : LEs xs ys) : LEs (x :: xs) (y :: ys) := ⟨h, h'⟩
theorem LE_fit {M : BSet} {w : World} : ∀ {xs ys : List AV} {vs : List Value}, LEs xs ys → Fit M w xs vs → Fit M w ys vs
  | [], [], [], _, _ => trivial
  | _ :: _, _ :: _, _ :: _, h, hf => ⟨h.1 _ _ _ hf.1, LE_fit h.2 hf.2⟩

variable {d : Option Tmp} {ty : TypeId} {pos : String} {after : Array Edge} {g : Option (Nat × Bool)}
theorem run_call {f : FuncId} {fn : Func} {xs : List Operand} {ats : Array TypeId} {ev : Operand → Value} {w : World} (hf : P.funcs[f]? = some fn) (hb : (fn.body.isNone || fn.name == "runtime.NumGoroutine") = false) (he' : ev (.func f) = .func (.func f) #[] #[]) :
    (execOp ev ⟨d, .call { callee := .value (.func f), args := xs.toArray, argTypes := ats }, ty, pos, after, g⟩).run P w = .ok (.enter f (xs.map ev).toArray) w := by
  simp only [Bool.or_eq_false_iff] at hb
  simp [execOp, resolve, he', Deferred.ofValue, invoke, run_callFunc hf hb.1 hb.2, go_sem]
theorem fit_args {f : FuncId} {xs : List Operand} {ats : Array TypeId} {args : List AV} {M : BSet} {w : World} {ev : Operand → Value}
    (h : ∀ x ∈ (⟨d, .call { callee := .value (.func f), args := xs.toArray, argTypes := ats }, ty, pos, after, g⟩ : Oper).op.operands, (af.ev x).p M w (ev x)) (hx : LEs (xs.map af.ev) args) : Fit M w args (xs.map ev) := by
  refine LE_fit hx ?_
  have h' : ∀ x ∈ xs, (af.ev x).p M w (ev x) := fun x hm => h x (by simp [Op.operands, Call.operands, hm])
  clear hx h
  induction xs with
  | nil => trivial
  | cons x xs ih => exact ⟨h' x (by simp), ih (fun y hy => h' y (by simp [hy]))⟩

theorem op_pure {f : FuncId} {fn : Func} {args : List AV} {r : AV} {xs : List Operand} {ats : Array TypeId} {K : AF → Prop} (hp : Pure P f args r) (hf : P.funcs[f]? = some fn) (hb : (fn.body.isNone || fn.name == "runtime.NumGoroutine") = false)
    (hx : LEs (xs.map af.ev) args) (hk : K (af.put d r)) : opA P ⟨d, .call { callee := .value (.func f), args := xs.toArray, argTypes := ats }, ty, pos, after, g⟩ af K := by
  refine ⟨r, fun M w ev hM h => ?_, hk⟩
  have he' : ev (.func f) = .func (.func f) #[] #[] := h (.func f) (by simp [Op.operands, Call.operands])
  rw [run_call hf hb he']
  exact hp M w _ hM (fit_args h hx)
theorem op_fun {f : FuncId} {fn : Func} {args : List AV} {post : AV → Items → Prop} {xs : List Operand} {ats : Array TypeId} {K : AF → Items → Prop} (hp : Fun P f args σ post) (hf : P.funcs[f]? = some fn) (hb : (fn.body.isNone || fn.name == "runtime.NumGoroutine") = false)
    (hx : LEs (xs.map af.ev) args) (hk : ∀ av σ', post av σ' → K (af.put d av) σ') : opB P ⟨d, .call { callee := .value (.func f), args := xs.toArray, argTypes := ats }, ty, pos, after, g⟩ af σ K := by
  refine ⟨post, fun F w ev hg h => ?_, hk⟩
  have he' : ev (.func f) = .func (.func f) #[] #[] := h (.func f) (by simp [Op.operands, Call.operands])
  rw [run_call hf hb he']
  exact hp F w _ hg (fit_args h hx)

theorem own_app {A B : Items} {k : Nat} : Items.own (A ++ B) k ↔ Items.own A k ∨ Items.own B k := by simp [Items.own]
/-- The function leaves the rest in use as it was. -/
theorem Fun.frame {f : FuncId} {args : List AV} {post : AV → Items → Prop} (hp : Fun P f args σ post) (ρ : Items) : Fun P f args (σ ++ ρ) (fun a s => ∃ s', post a s' ∧ s = s' ++ ρ) := by
  intro F w vs hg hfit
  have hsp : ∀ (s : Items) k, both (both F (Items.own ρ)) (Items.own s) k ↔ both F (Items.own (s ++ ρ)) k := fun s k => by
    simp only [both, own_app]
    constructor
    · rintro ((h | h) | h)
      · exact .inl h
      · exact .inr (.inr h)
      · exact .inr (.inl h)
    · rintro (h | h | h)
      · exact .inl (.inl h)
      · exact .inr h
      · exact .inl (.inr h)
  have hnd := hg.nodup
  rw [List.flatMap_append, List.nodup_append] at hnd
  have hg' : Good (both F (Items.own ρ)) σ w := ⟨fun k h => h.elim (hg.fr k) (fun h => (hg.own k (own_app.2 (.inr h))).1),
    fun k h => ⟨(hg.own k (own_app.2 (.inl h))).1, fun hb => hb.elim (fun hF => (hg.own k (own_app.2 (.inl h))).2 hF) (fun hr => hnd.2.2 k h k hr rfl)⟩, hnd.1,
    fun it hi => it.keep (Keeps.refl _ _) (fun k _ h => (hsp σ k).1 h) (hg.items it (List.mem_append_left _ hi))⟩
  refine (hp _ w vs hg' (hfit.keep (Keeps.refl _ _) (fun k _ h => (hsp σ k).1 h))).mono ?_
  rintro e w' ⟨v, he, av, s', hpost, hg2, hk, hn, hpv⟩
  refine ⟨v, he, av, s' ++ ρ, ⟨s', hpost, rfl⟩, ?_, hk.mono (fun k _ h => own_app.2 (.inl h)), fun k h hlt => own_app.2 ((own_app.1 h).imp (fun h => hn k h hlt) id), av.keep (Keeps.refl _ _) (fun k _ h => (hsp s' k).2 h) hpv⟩
  have hfr : ∀ k, Items.own ρ k → k < w.heap.size ∧ ¬ F k := fun k h => hg.own k (own_app.2 (.inr h))
  refine ⟨fun k h => Nat.lt_of_lt_of_le (hg.fr k h) hk.size, fun k h => ?_, ?_, fun it hi => ?_⟩
  · rcases own_app.1 h with h | h
    · exact ⟨(hg2.own k h).1, fun hF => (hg2.own k h).2 (.inl hF)⟩
    · exact ⟨Nat.lt_of_lt_of_le (hfr k h).1 hk.size, (hfr k h).2⟩
  · rw [List.flatMap_append, List.nodup_append]
    exact ⟨hg2.nodup, hnd.2.1, fun a ha b hb hab => (hg2.own a ha).2 (.inr (by rw [hab]; exact hb))⟩
  · rcases List.mem_append.1 hi with hi | hi
    · exact it.keep (Keeps.refl _ _) (fun k _ h => (hsp s' k).2 h) (hg2.items it hi)
    · refine it.keep (hk.mono (fun k _ h => ⟨.inr (own_app.2 (.inl h)), fun hio => hnd.2.2 k h k (List.mem_flatMap.2 ⟨it, hi, hio⟩) rfl⟩)) (fun k hlt h => ?_) (hg.items it (List.mem_append_right _ hi))
      exact h.imp id (fun h => own_app.2 ((own_app.1 h).imp (fun h => hn k h hlt) id))

theorem op_append {t : TypeId} {s x : Operand} {v : Value} {n m : Nat} {c : List AV} {α : Type} {enc : α → List AV} {ys : List α} {ρ : Items} {K : AF → Items → Prop} (hB : elB P t n = true) (hs : af.ev s = .exact v) (hx : af.ev x = .row n enc ys)
    (ho : OneC (ys.flatMap enc)) (hl : m + ys.length ≤ 137438953472) (hk : ∀ v', K (af.put d (.exact v')) (vecI P t v' n (m + ys.length) (c ++ ys.flatMap enc) :: ρ)) :
    opB P ⟨d, .call { callee := .builtin .append, args := #[s, x], argTypes := #[t, t] }, ty, pos, after, g⟩ af (vecI P t v n m c :: ρ) K :=
  ⟨_, loud_append hB hs hx ho hl, fun av σ' ⟨v', e1, e2⟩ => by subst e1 e2; exact hk v'⟩
end
end Go.Proofs.Ytkplmgdmkfgjhaa
