/- The operations, in the calculus of what is known. -/
import Derived.Test.YtkplmgdmkfgjhaaAv
namespace Go.Proofs.Ytkplmgdmkfgjhaa
open Go.RowKit

section
variable {P : Program} {ops : Array Oper} {af : AF} {σ : Items}

/-- One operation that touches nothing in use, and what follows. -/
def opA (P : Program) (o : Oper) (af : AF) (K : AF → Prop) : Prop := ∃ av, Quiet P o af av ∧ K (af.put o.dst av)

variable {KK : AF → Items → Prop} {rest : List Oper} {dst : Option Tmp} {op : Op} {ty0 : TypeId} {pos0 : String} {after0 : Array Edge}
theorem wpL_nil (h : KK af σ) : wpL P ops KK [] af σ := h
theorem wpL_q (h : opA P ⟨dst, op, ty0, pos0, after0, none⟩ af (fun af' => wpL P ops KK rest af' σ)) : wpL P ops KK (⟨dst, op, ty0, pos0, after0, none⟩ :: rest) af σ := by
  obtain ⟨av, hq, hk⟩ := h
  exact ⟨av, .inr ⟨.inl ⟨rfl, rfl⟩, hq⟩, hk⟩
variable {j : Nat} {want : Bool} {dg : Tmp} {c : Bool} {p : Prop} [Decidable p]
theorem wpL_g (hj : (ops[j]?).bind (·.dst) = some dg) (hv : af dg = .exact (.bool c))
    (h1 : (c == want) = true → opA P ⟨dst, op, ty0, pos0, after0, some (j, want)⟩ af (fun af' => wpL P ops KK rest af' σ))
    (h2 : (c == want) = false → wpL P ops KK rest (af.put dst undefA) σ) : wpL P ops KK (⟨dst, op, ty0, pos0, after0, some (j, want)⟩ :: rest) af σ := by
  by_cases hc : (c == want) = true
  · obtain ⟨av, hq, hk⟩ := h1 hc
    exact ⟨av, .inr ⟨.inr ⟨j, want, dg, .bool c, rfl, hj, hv, (by show _ = (some c == some want); simpa using hc.symm)⟩, hq⟩, hk⟩
  · have hc' : (c == want) = false := by simpa using hc
    exact ⟨undefA, .inl ⟨.inr ⟨j, want, dg, .bool c, rfl, hj, hv, (by show _ = (some c == some want); simpa using hc'.symm)⟩, rfl⟩, h2 hc'⟩
theorem wpL_yes (hj : (ops[j]?).bind (·.dst) = some dg) (hv : af dg = .exact (.bool want))
    (h1 : opA P ⟨dst, op, ty0, pos0, after0, some (j, want)⟩ af (fun af' => wpL P ops KK rest af' σ)) : wpL P ops KK (⟨dst, op, ty0, pos0, after0, some (j, want)⟩ :: rest) af σ :=
  wpL_g hj hv (fun _ => h1) (fun h => by simp at h)
theorem wpL_no (hj : (ops[j]?).bind (·.dst) = some dg) (hv : af dg = .exact (.bool (!want)))
    (h2 : wpL P ops KK rest (af.put dst undefA) σ) : wpL P ops KK (⟨dst, op, ty0, pos0, after0, some (j, want)⟩ :: rest) af σ :=
  wpL_g hj hv (fun h => by simp at h) (fun _ => h2)
/-- A guard that hangs on p: from here on it is known. -/
theorem wpL_gt (hj : (ops[j]?).bind (·.dst) = some dg) (hv : af dg = .exact (.bool (decide p)))
    (h1 : p → opA P ⟨dst, op, ty0, pos0, after0, some (j, true)⟩ (af.put (some dg) (.exact (.bool true))) (fun af' => wpL P ops KK rest af' σ))
    (h2 : ¬ p → wpL P ops KK rest ((af.put (some dg) (.exact (.bool false))).put dst undefA) σ) : wpL P ops KK (⟨dst, op, ty0, pos0, after0, some (j, true)⟩ :: rest) af σ := by
  have same : ∀ b, decide p = b → af.put (some dg) (.exact (.bool b)) = af := fun b hb => by
    funext t
    by_cases ht : t = dg
    · subst ht; rw [AF.put_same, hv, hb]
    · rw [AF.put_other _ _ ht]
  by_cases hp : p
  · have hd : decide p = true := by simp [hp]
    rw [same true hd] at h1
    exact wpL_yes hj (by rw [hv, hd]) (h1 hp)
  · have hd : decide p = false := by simp [hp]
    rw [same false hd] at h2
    exact wpL_no hj (by rw [hv, hd]; rfl) (h2 hp)
theorem wpL_gf (hj : (ops[j]?).bind (·.dst) = some dg) (hv : af dg = .exact (.bool (decide p)))
    (h1 : ¬ p → opA P ⟨dst, op, ty0, pos0, after0, some (j, false)⟩ (af.put (some dg) (.exact (.bool false))) (fun af' => wpL P ops KK rest af' σ))
    (h2 : p → wpL P ops KK rest ((af.put (some dg) (.exact (.bool true))).put dst undefA) σ) : wpL P ops KK (⟨dst, op, ty0, pos0, after0, some (j, false)⟩ :: rest) af σ := by
  have same : ∀ b, decide p = b → af.put (some dg) (.exact (.bool b)) = af := fun b hb => by
    funext t
    by_cases ht : t = dg
    · subst ht; rw [AF.put_same, hv, hb]
    · rw [AF.put_other _ _ ht]
  by_cases hp : p
  · have hd : decide p = true := by simp [hp]
    rw [same true hd] at h2
    exact wpL_no hj (by rw [hv, hd]; rfl) (h2 hp)
  · have hd : decide p = false := by simp [hp]
    rw [same false hd] at h1
    exact wpL_yes hj (by rw [hv, hd]) (h1 hp)

theorem exact_p {M : BSet} {w : World} {v v0 : Value} (h : (AV.exact v0).p M w v) : v = v0 := h
theorem opnd {M : BSet} {w : World} {ev : Operand → Value} {o : Oper} {x : Operand} {v : Value} (hx : ∀ x ∈ o.op.operands, (af.ev x).p M w (ev x)) (hm : x ∈ o.op.operands) (h : af.ev x = .exact v) : ev x = v := by
  have := hx x hm
  rw [h] at this
  exact this

variable {d : Option Tmp} {ty : TypeId} {pos : String} {after : Array Edge} {g : Option (Nat × Bool)} {K : AF → Prop}

theorem op_move {x : Operand} {av : AV} (h : af.ev x = av) (hk : K (af.put d av)) : opA P ⟨d, .move x, ty, pos, after, g⟩ af K :=
  ⟨av, fun M w ev _ hx => ⟨Keeps.refl _ _, by have := hx x (by simp [Op.operands]); rwa [h] at this⟩, hk⟩
theorem op_assign {x : Operand} {av : AV} (h : af.ev x = av) (hk : K (af.put d av)) : opA P ⟨d, .assign x, ty, pos, after, g⟩ af K :=
  ⟨av, fun M w ev _ hx => ⟨Keeps.refl _ _, by have := hx x (by simp [Op.operands]); rwa [h] at this⟩, hk⟩

theorem run_under {t : TypeId} {D : TypeDesc} {w : World} (h : P.underlying t = some D) : (underlying t).run P w = .ok D w := by
  show (Sem.program _).run P w = _
  simp only [Sem.run, Sem.bind, h]
  rfl
theorem run_prog {w : World} : (program).run P w = .ok P w := rfl
theorem run_size {t : TypeId} {n : Nat} {w : World} (h : (P.info? t).map (·.size) = some n) : (sizeOf t).run P w = .ok n w := by
  cases hI : P.info? t with
  | none => simp [hI] at h
  | some I =>
    have hn : I.size = n := by simpa [hI] using h
    show (Sem.program _).run P w = _
    simp only [Sem.run, Sem.bind, hI, ← hn]
    rfl
def sizeB (P : Program) (t : TypeId) (n : Nat) : Bool := match P.info? t with | some i => i.size == n | none => false
theorem sizeB_spec {t : TypeId} {n : Nat} (h : sizeB P t n = true) : (P.info? t).map (·.size) = some n := by
  unfold sizeB at h
  cases hi : P.info? t with
  | none => simp [hi] at h
  | some i => simpa [hi] using h
def sliceB (P : Program) (t : TypeId) (n : Nat) : Bool := match P.underlying t with | some (.slice e) => sizeB P e n | _ => false
theorem sliceB_spec {t : TypeId} {n : Nat} (h : sliceB P t n = true) : ∃ e, P.underlying t = some (.slice e) ∧ (P.info? e).map (·.size) = some n := by
  unfold sliceB at h
  split at h
  · rename_i e he; exact ⟨e, he, sizeB_spec h⟩
  · cases h
def isSliceB (P : Program) (t : TypeId) : Bool := match P.underlying t with | some (.slice _) => true | _ => false
theorem isSliceB_spec {t : TypeId} (h : isSliceB P t = true) : ∃ e, P.underlying t = some (.slice e) := by
  unfold isSliceB at h
  split at h
  · rename_i e he; exact ⟨e, he⟩
  · cases h
def isStrB (P : Program) (t : TypeId) : Bool := match P.underlying t with | some .string => true | _ => false
theorem isStrB_spec {t : TypeId} (h : isStrB P t = true) : P.underlying t = some .string := by
  unfold isStrB at h
  split at h
  · assumption
  · cases h
def convB (P : Program) (t t' : TypeId) (k : IntKind) : Bool := (P.underlying t).isSome && (match P.underlying t' with | some (.int k') => decide (k' = k) | _ => false)
theorem convB_spec {t t' : TypeId} {k : IntKind} (h : convB P t t' k = true) : (∃ D, P.underlying t = some D) ∧ P.underlying t' = some (.int k) := by
  simp only [convB, Bool.and_eq_true] at h
  refine ⟨Option.isSome_iff_exists.1 h.1, ?_⟩
  have h2 := h.2
  split at h2
  · rename_i k' he; rw [he, of_decide_eq_true h2]
  · cases h2
def aggB : TypeDesc → Bool | .struct _ | .array _ _ => true | _ => false
theorem run_agg {t : TypeId} {D : TypeDesc} {w : World} (h : P.underlying t = some D) : (isAgg t).run P w = .ok (aggB D) w := by
  show (Sem.program _).run P w = _
  simp only [Sem.run, Sem.bind, h]
  cases D <;> rfl

section
variable {t t' : TypeId} {x y z : Operand} {k k' : IntKind} {a b r : Int} {q : Prop} [Decidable q] {u v : Value} {s1 s2 : ByteArray} {c1 c2 : Bool}
theorem op_add (hx : af.ev x = .exact (.int k a)) (hy : af.ev y = .exact (.int k b)) (hr : k.wrap (a + b) = r) (hk : K (af.put d (.exact (.int k r)))) : opA P ⟨d, .binOp .add t x y t', ty, pos, after, g⟩ af K := by
  refine ⟨_, fun M w ev _ h => ?_, hk⟩
  have e1 := opnd h (x := x) (by simp [Op.operands]) hx
  have e2 := opnd h (x := y) (by simp [Op.operands]) hy
  simp [execOp, eqGuard, e1, e2, binOp, Op.intArith, hr, go_sem, UponQ]
  exact ⟨Keeps.refl _ _, rfl⟩
theorem op_sub (hx : af.ev x = .exact (.int k a)) (hy : af.ev y = .exact (.int k b)) (hr : k.wrap (a - b) = r) (hk : K (af.put d (.exact (.int k r)))) : opA P ⟨d, .binOp .sub t x y t', ty, pos, after, g⟩ af K := by
  refine ⟨_, fun M w ev _ h => ?_, hk⟩
  have e1 := opnd h (x := x) (by simp [Op.operands]) hx
  have e2 := opnd h (x := y) (by simp [Op.operands]) hy
  simp [execOp, eqGuard, e1, e2, binOp, Op.intArith, hr, go_sem, UponQ]
  exact ⟨Keeps.refl _ _, rfl⟩
theorem op_mul (hx : af.ev x = .exact (.int k a)) (hy : af.ev y = .exact (.int k b)) (hr : k.wrap (a * b) = r) (hk : K (af.put d (.exact (.int k r)))) : opA P ⟨d, .binOp .mul t x y t', ty, pos, after, g⟩ af K := by
  refine ⟨_, fun M w ev _ h => ?_, hk⟩
  have e1 := opnd h (x := x) (by simp [Op.operands]) hx
  have e2 := opnd h (x := y) (by simp [Op.operands]) hy
  simp [execOp, eqGuard, e1, e2, binOp, Op.intArith, hr, go_sem, UponQ]
  exact ⟨Keeps.refl _ _, rfl⟩
theorem op_and (hx : af.ev x = .exact (.int k a)) (hy : af.ev y = .exact (.int k b)) (hr : k.wrap ((BitVec.ofInt k.bits a &&& BitVec.ofInt k.bits b).toNat : Int) = r) (hk : K (af.put d (.exact (.int k r)))) : opA P ⟨d, .binOp .and t x y t', ty, pos, after, g⟩ af K := by
  refine ⟨_, fun M w ev _ h => ?_, hk⟩
  have e1 := opnd h (x := x) (by simp [Op.operands]) hx
  have e2 := opnd h (x := y) (by simp [Op.operands]) hy
  simp [execOp, eqGuard, e1, e2, binOp, Op.intBits, go_sem, UponQ]
  exact ⟨Keeps.refl _ _, by rw [← hr]; rfl⟩
theorem op_or (hx : af.ev x = .exact (.int k a)) (hy : af.ev y = .exact (.int k b)) (hr : k.wrap ((BitVec.ofInt k.bits a ||| BitVec.ofInt k.bits b).toNat : Int) = r) (hk : K (af.put d (.exact (.int k r)))) : opA P ⟨d, .binOp .or t x y t', ty, pos, after, g⟩ af K := by
  refine ⟨_, fun M w ev _ h => ?_, hk⟩
  have e1 := opnd h (x := x) (by simp [Op.operands]) hx
  have e2 := opnd h (x := y) (by simp [Op.operands]) hy
  simp [execOp, eqGuard, e1, e2, binOp, Op.intBits, go_sem, UponQ]
  exact ⟨Keeps.refl _ _, by rw [← hr]; rfl⟩
theorem op_xor (hx : af.ev x = .exact (.int k a)) (hy : af.ev y = .exact (.int k b)) (hr : k.wrap ((BitVec.ofInt k.bits a ^^^ BitVec.ofInt k.bits b).toNat : Int) = r) (hk : K (af.put d (.exact (.int k r)))) : opA P ⟨d, .binOp .xor t x y t', ty, pos, after, g⟩ af K := by
  refine ⟨_, fun M w ev _ h => ?_, hk⟩
  have e1 := opnd h (x := x) (by simp [Op.operands]) hx
  have e2 := opnd h (x := y) (by simp [Op.operands]) hy
  simp [execOp, eqGuard, e1, e2, binOp, Op.intBits, go_sem, UponQ]
  exact ⟨Keeps.refl _ _, by rw [← hr]; rfl⟩
theorem op_quo (hx : af.ev x = .exact (.int k a)) (hy : af.ev y = .exact (.int k b)) (h0 : b ≠ 0) (hr : k.wrap (a.tdiv b) = r) (hk : K (af.put d (.exact (.int k r)))) : opA P ⟨d, .binOp .quo t x y t', ty, pos, after, g⟩ af K := by
  refine ⟨_, fun M w ev _ h => ?_, hk⟩
  have e1 := opnd h (x := x) (by simp [Op.operands]) hx
  have e2 := opnd h (x := y) (by simp [Op.operands]) hy
  simp [execOp, eqGuard, e1, e2, binOp, Op.intDiv, h0, hr, go_sem, UponQ]
  exact ⟨Keeps.refl _ _, rfl⟩
theorem op_rem (hx : af.ev x = .exact (.int k a)) (hy : af.ev y = .exact (.int k b)) (h0 : b ≠ 0) (hr : a.tmod b = r) (hk : K (af.put d (.exact (.int k r)))) : opA P ⟨d, .binOp .rem t x y t', ty, pos, after, g⟩ af K := by
  refine ⟨_, fun M w ev _ h => ?_, hk⟩
  have e1 := opnd h (x := x) (by simp [Op.operands]) hx
  have e2 := opnd h (x := y) (by simp [Op.operands]) hy
  simp [execOp, eqGuard, e1, e2, binOp, Op.intDiv, h0, hr, go_sem, UponQ]
  exact ⟨Keeps.refl _ _, rfl⟩
theorem op_shl (hx : af.ev x = .exact (.int k a)) (hy : af.ev y = .exact (.int k' b)) (h0 : ¬ b < 0) (hr : k.wrap (a * 2 ^ min b.toNat k.bits) = r) (hk : K (af.put d (.exact (.int k r)))) : opA P ⟨d, .binOp .shl t x y t', ty, pos, after, g⟩ af K := by
  refine ⟨_, fun M w ev _ h => ?_, hk⟩
  have e1 := opnd h (x := x) (by simp [Op.operands]) hx
  have e2 := opnd h (x := y) (by simp [Op.operands]) hy
  simp [execOp, eqGuard, e1, e2, binOp, Op.shift, h0, go_sem, UponQ]
  exact ⟨Keeps.refl _ _, by rw [← hr]; rfl⟩
theorem op_shr (hx : af.ev x = .exact (.int k a)) (hy : af.ev y = .exact (.int k' b)) (h0 : ¬ b < 0) (hr : a.fdiv (2 ^ min b.toNat k.bits) = r) (hk : K (af.put d (.exact (.int k r)))) : opA P ⟨d, .binOp .shr t x y t', ty, pos, after, g⟩ af K := by
  refine ⟨_, fun M w ev _ h => ?_, hk⟩
  have e1 := opnd h (x := x) (by simp [Op.operands]) hx
  have e2 := opnd h (x := y) (by simp [Op.operands]) hy
  simp [execOp, eqGuard, e1, e2, binOp, Op.shift, h0, go_sem, UponQ]
  exact ⟨Keeps.refl _ _, by rw [← hr]; rfl⟩
theorem op_lss (hx : af.ev x = .exact (.int k a)) (hy : af.ev y = .exact (.int k b)) (hk : K (af.put d (.exact (.bool (decide (a < b)))))) : opA P ⟨d, .binOp .lss t x y t', ty, pos, after, g⟩ af K := by
  refine ⟨_, fun M w ev _ h => ?_, hk⟩
  have e1 := opnd h (x := x) (by simp [Op.operands]) hx
  have e2 := opnd h (x := y) (by simp [Op.operands]) hy
  simp [execOp, eqGuard, e1, e2, binOp, Op.intCmp, go_sem, UponQ]
  exact ⟨Keeps.refl _ _, by simp [AV.exact] <;> first | done | exact Int.beq_eq_decide_eq _ _ | (by_cases h : a = b <;> simp [h])⟩
theorem op_leq (hx : af.ev x = .exact (.int k a)) (hy : af.ev y = .exact (.int k b)) (hk : K (af.put d (.exact (.bool (decide (a ≤ b)))))) : opA P ⟨d, .binOp .leq t x y t', ty, pos, after, g⟩ af K := by
  refine ⟨_, fun M w ev _ h => ?_, hk⟩
  have e1 := opnd h (x := x) (by simp [Op.operands]) hx
  have e2 := opnd h (x := y) (by simp [Op.operands]) hy
  simp [execOp, eqGuard, e1, e2, binOp, Op.intCmp, go_sem, UponQ]
  exact ⟨Keeps.refl _ _, by simp [AV.exact] <;> first | done | exact Int.beq_eq_decide_eq _ _ | (by_cases h : a = b <;> simp [h])⟩
theorem op_gtr (hx : af.ev x = .exact (.int k a)) (hy : af.ev y = .exact (.int k b)) (hk : K (af.put d (.exact (.bool (decide (b < a)))))) : opA P ⟨d, .binOp .gtr t x y t', ty, pos, after, g⟩ af K := by
  refine ⟨_, fun M w ev _ h => ?_, hk⟩
  have e1 := opnd h (x := x) (by simp [Op.operands]) hx
  have e2 := opnd h (x := y) (by simp [Op.operands]) hy
  simp [execOp, eqGuard, e1, e2, binOp, Op.intCmp, go_sem, UponQ]
  exact ⟨Keeps.refl _ _, by simp [AV.exact] <;> first | done | exact Int.beq_eq_decide_eq _ _ | (by_cases h : a = b <;> simp [h])⟩
theorem op_geq (hx : af.ev x = .exact (.int k a)) (hy : af.ev y = .exact (.int k b)) (hk : K (af.put d (.exact (.bool (decide (b ≤ a)))))) : opA P ⟨d, .binOp .geq t x y t', ty, pos, after, g⟩ af K := by
  refine ⟨_, fun M w ev _ h => ?_, hk⟩
  have e1 := opnd h (x := x) (by simp [Op.operands]) hx
  have e2 := opnd h (x := y) (by simp [Op.operands]) hy
  simp [execOp, eqGuard, e1, e2, binOp, Op.intCmp, go_sem, UponQ]
  exact ⟨Keeps.refl _ _, by simp [AV.exact] <;> first | done | exact Int.beq_eq_decide_eq _ _ | (by_cases h : a = b <;> simp [h])⟩
theorem op_eql (hx : af.ev x = .exact (.int k a)) (hy : af.ev y = .exact (.int k b)) (hk : K (af.put d (.exact (.bool (decide (a = b)))))) : opA P ⟨d, .binOp .eql t x y t', ty, pos, after, g⟩ af K := by
  refine ⟨_, fun M w ev _ h => ?_, hk⟩
  have e1 := opnd h (x := x) (by simp [Op.operands]) hx
  have e2 := opnd h (x := y) (by simp [Op.operands]) hy
  simp [execOp, eqGuard, e1, e2, binOp, Op.intCmp, go_sem, UponQ]
  exact ⟨Keeps.refl _ _, by simp [AV.exact] <;> first | done | exact Int.beq_eq_decide_eq _ _ | (by_cases h : a = b <;> simp [h])⟩
theorem op_neq (hx : af.ev x = .exact (.int k a)) (hy : af.ev y = .exact (.int k b)) (hk : K (af.put d (.exact (.bool (decide (¬ a = b)))))) : opA P ⟨d, .binOp .neq t x y t', ty, pos, after, g⟩ af K := by
  refine ⟨_, fun M w ev _ h => ?_, hk⟩
  have e1 := opnd h (x := x) (by simp [Op.operands]) hx
  have e2 := opnd h (x := y) (by simp [Op.operands]) hy
  simp [execOp, eqGuard, e1, e2, binOp, Op.intCmp, go_sem, UponQ]
  exact ⟨Keeps.refl _ _, by simp [AV.exact] <;> first | done | exact Int.beq_eq_decide_eq _ _ | (by_cases h : a = b <;> simp [h])⟩
theorem op_not (hx : af.ev x = .exact (.bool c1)) (hk : K (af.put d (.exact (.bool (!c1))))) : opA P ⟨d, .unOp .not t x, ty, pos, after, g⟩ af K := by
  refine ⟨_, fun M w ev _ h => ?_, hk⟩
  have e1 := opnd h (x := x) (by simp [Op.operands]) hx
  simp [execOp, e1, Op.unary, go_sem, UponQ]
  exact ⟨Keeps.refl _ _, rfl⟩
theorem op_not_d (hx : af.ev x = .exact (.bool (decide p))) (hk : K (af.put d (.exact (.bool (decide (¬ p)))))) : opA P ⟨d, .unOp .not t x, ty, pos, after, g⟩ af K :=
  op_not hx (by rw [show (!decide p) = decide (¬ p) by by_cases h : p <;> simp [h]]; exact hk)
theorem op_pick_t (hx : af.ev x = .exact (.bool true)) {av : AV} (hy : af.ev y = av) (hk : K (af.put d av)) : opA P ⟨d, .pick x y z, ty, pos, after, g⟩ af K := by
  refine ⟨_, fun M w ev _ h => ?_, hk⟩
  have e1 := opnd h (x := x) (by simp [Op.operands]) hx
  have e2 := h y (by simp [Op.operands])
  rw [hy] at e2
  simp [execOp, e1, asBool, go_sem, UponQ]
  exact ⟨Keeps.refl _ _, e2⟩
theorem op_pick_f (hx : af.ev x = .exact (.bool false)) {av : AV} (hy : af.ev z = av) (hk : K (af.put d av)) : opA P ⟨d, .pick x y z, ty, pos, after, g⟩ af K := by
  refine ⟨_, fun M w ev _ h => ?_, hk⟩
  have e1 := opnd h (x := x) (by simp [Op.operands]) hx
  have e2 := h z (by simp [Op.operands])
  rw [hy] at e2
  simp [execOp, e1, asBool, go_sem, UponQ]
  exact ⟨Keeps.refl _ _, e2⟩
theorem op_pick_d (hx : af.ev x = .exact (.bool (decide p))) (h1 : p → opA P ⟨d, .move y, ty, pos, after, g⟩ af K) (h2 : ¬ p → opA P ⟨d, .move z, ty, pos, after, g⟩ af K) : opA P ⟨d, .pick x y z, ty, pos, after, g⟩ af K := by
  by_cases hp : p
  · obtain ⟨av, hq, hk⟩ := h1 hp
    refine ⟨av, fun M w ev hM h => ?_, hk⟩
    have e1 := opnd h (x := x) (by simp [Op.operands]) hx
    have e2 := hq M w ev hM (fun u hu => h u (by simp [Op.operands] at hu ⊢; exact .inr (.inl hu)))
    simp [execOp, go_sem, UponQ] at e2
    simp [execOp, e1, asBool, hp, go_sem, UponQ]
    exact e2
  · obtain ⟨av, hq, hk⟩ := h2 hp
    refine ⟨av, fun M w ev hM h => ?_, hk⟩
    have e1 := opnd h (x := x) (by simp [Op.operands]) hx
    have e2 := hq M w ev hM (fun u hu => h u (by simp [Op.operands] at hu ⊢; exact .inr (.inr hu)))
    simp [execOp, go_sem, UponQ] at e2
    simp [execOp, e1, asBool, hp, go_sem, UponQ]
    exact e2
theorem op_convInt (hB : convB P t t' k = true) (hx : af.ev x = .exact (.int k' a)) (hr : k.wrap a = r) (hk : K (af.put d (.exact (.int k r)))) : opA P ⟨d, .convert t t' x, ty, pos, after, g⟩ af K := by
  refine ⟨_, fun M w ev _ h => ?_, hk⟩
  have e1 := opnd h (x := x) (by simp [Op.operands]) hx
  obtain ⟨⟨D, hD⟩, hu'⟩ := convB_spec hB
  simp [execOp, e1, convert, run_under hD, run_under hu', Conv.intToInt, hr, go_sem, UponQ]
  exact ⟨Keeps.refl _ _, rfl⟩
end

def loadB (P : Program) (t : TypeId) (b : Bool) (n : Nat) : Bool := (match P.underlying t with | some D => aggB D == b | none => false) && sizeB P t n
theorem loadB_spec {t : TypeId} {b : Bool} {n : Nat} (h : loadB P t b n = true) : (∃ D, P.underlying t = some D ∧ aggB D = b) ∧ (P.info? t).map (·.size) = some n := by
  simp only [loadB, Bool.and_eq_true] at h
  refine ⟨?_, sizeB_spec h.2⟩
  have h1 := h.1
  split at h1
  · rename_i D hD; exact ⟨D, hD, by simpa using h1⟩
  · cases h1

/-! ### Rows -/
theorem cell_keep {M M' : BSet} {w w' : World} (hk : Keeps M w w') (hm : ∀ k, k < w.heap.size → M' k → M k) {b : Nat} (hb : b < w.heap.size) (hn : ¬ M b) : b < w'.heap.size ∧ ¬ M' b ∧ ∀ o, w'.cell? ⟨b, o, none⟩ = w.cell? ⟨b, o, none⟩ :=
  ⟨Nat.lt_of_lt_of_le hb hk.size, fun h => hn (hm b hb h), fun o => World.cell?_of_block (w := w) (a := ⟨b, o, none⟩) (hk.block b hb hn)⟩

/-- The cells from b, off on. -/
def CellsAt (M : BSet) (w : World) (b off : Nat) (c : List AV) : Prop := ∀ (j : Nat) (a : AV), c[j]? = some a → ∃ u, w.cell? ⟨b, off + j, none⟩ = some u ∧ a.p M w u
theorem CellsAt.keep {M M' : BSet} {w w' : World} {b off : Nat} {c : List AV} (h : CellsAt M w b off c) (hk : Keeps M w w') (hm : ∀ k, k < w.heap.size → M' k → M k) (hb : b < w.heap.size) (hn : ¬ M b) : CellsAt M' w' b off c :=
  fun j a hj => let ⟨u, h1, h2⟩ := h j a hj; ⟨u, ((cell_keep hk hm hb hn).2.2 _).trans h1, a.keep hk hm h2⟩

/-- A pointer at cells that stay. -/
def AV.ptr (c : List AV) : AV :=
  ⟨fun M w v => ∃ b off, v = .pointer (some ⟨b, off, none⟩) ∧ b < w.heap.size ∧ ¬ M b ∧ CellsAt M w b off c,
   fun hk hm ⟨b, off, h1, h2, h3, h4⟩ => ⟨b, off, h1, (cell_keep hk hm h2 h3).1, (cell_keep hk hm h2 h3).2.1, h4.keep hk hm h2 h3⟩⟩

/-- A slice that stays and reads as xs, each element enc of it, n cells. -/
def AV.row {α : Type} (n : Nat) (enc : α → List AV) (xs : List α) : AV :=
  ⟨fun M w v => ∃ A c, v = .slice A xs.length c ∧ xs.length ≤ c ∧ c ≤ 9223372036854775807 ∧ (xs ≠ [] → ∃ b off, A = some ⟨b, off, none⟩ ∧ b < w.heap.size ∧ ¬ M b ∧ ∀ (i : Nat) (x : α), xs[i]? = some x → (enc x).length = n ∧ CellsAt M w b (off + i * n) (enc x)),
   fun hk hm ⟨A, c, h1, h2, h3, h4⟩ => ⟨A, c, h1, h2, h3, fun hx => let ⟨b, off, e1, e2, e3, e4⟩ := h4 hx
     ⟨b, off, e1, (cell_keep hk hm e2 e3).1, (cell_keep hk hm e2 e3).2.1, fun i x hi => ⟨(e4 i x hi).1, (e4 i x hi).2.keep hk hm e2 e3⟩⟩⟩⟩

/-- An aggregate. -/
def AV.agg (c : List AV) : AV := ⟨fun M w v => ∃ vs : List Value, v = .agg vs.toArray ∧ Fit M w c vs, fun hk hm ⟨vs, h1, h2⟩ => ⟨vs, h1, h2.keep hk hm⟩⟩

section
variable {α : Type} {n : Nat} {enc : α → List AV} {xs : List α} {t e : TypeId} {x y : Operand} {i : Int} {k : IntKind} {v : Value} {c : List AV}

theorem opnd_p {M : BSet} {w : World} {ev : Operand → Value} {o : Oper} {x : Operand} {av : AV} (hx : ∀ x ∈ o.op.operands, (af.ev x).p M w (ev x)) (hm : x ∈ o.op.operands) (h : af.ev x = av) : av.p M w (ev x) := by
  have := hx x hm
  rwa [h] at this

theorem op_len_row (hB : isSliceB P t = true) (hx : af.ev x = .row n enc xs) (hk : K (af.put d (.exact (.int .i64 (xs.length : Int))))) :
    opA P ⟨d, .call { callee := .builtin .len, args := #[x], argTypes := #[t] }, ty, pos, after, g⟩ af K := by
  refine ⟨_, fun M w ev _ h => ?_, hk⟩
  obtain ⟨A, c, e1, _⟩ := opnd_p h (x := x) (by simp [Op.operands, Call.operands]) hx
  obtain ⟨e, hu⟩ := isSliceB_spec hB
  simp [execOp, resolve, invoke, builtin, Builtin.len_, e1, run_under hu, goInt, go_sem, UponQ]
  exact ⟨Keeps.refl _ _, rfl⟩

theorem op_len_slice {A : Option Addr} {m cp : Nat} (hB : isSliceB P t = true) (hx : af.ev x = .exact (.slice A m cp)) (hk : K (af.put d (.exact (.int .i64 (m : Int))))) :
    opA P ⟨d, .call { callee := .builtin .len, args := #[x], argTypes := #[t] }, ty, pos, after, g⟩ af K := by
  refine ⟨_, fun M w ev _ h => ?_, hk⟩
  obtain ⟨e, hu⟩ := isSliceB_spec hB
  have e1 := opnd h (x := x) (by simp [Op.operands, Call.operands]) hx
  simp [execOp, resolve, invoke, builtin, Builtin.len_, e1, run_under hu, goInt, go_sem, UponQ]
  exact ⟨Keeps.refl _ _, rfl⟩

theorem op_len_str {s : ByteArray} (hB : isStrB P t = true) (hx : af.ev x = .exact (.string s)) (hk : K (af.put d (.exact (.int .i64 (s.size : Int))))) :
    opA P ⟨d, .call { callee := .builtin .len, args := #[x], argTypes := #[t] }, ty, pos, after, g⟩ af K := by
  refine ⟨_, fun M w ev _ h => ?_, hk⟩
  have hu := isStrB_spec hB
  have e1 := opnd h (x := x) (by simp [Op.operands, Call.operands]) hx
  simp [execOp, resolve, invoke, builtin, Builtin.len_, e1, run_under hu, goInt, go_sem, UponQ]
  exact ⟨Keeps.refl _ _, rfl⟩

theorem op_index_row [Inhabited α] (hB : sliceB P t n = true) (hx : af.ev x = .row n enc xs) (hy : af.ev y = .exact (.int k i)) (h0 : 0 ≤ i) (h1 : i < xs.length)
    (hk : K (af.put d (.ptr (enc (gi xs i))))) : opA P ⟨d, .indexAddr t x y, ty, pos, after, g⟩ af K := by
  refine ⟨_, fun M w ev _ h => ?_, hk⟩
  obtain ⟨A, c, e1, _, _, e4⟩ := opnd_p h (x := x) (by simp [Op.operands]) hx
  obtain ⟨e, hu, hs⟩ := sliceB_spec hB
  have e2 := opnd h (x := y) (by simp [Op.operands]) hy
  obtain ⟨b, off, rfl, hb, hn, hc⟩ := e4 (by rintro rfl; simp at h1; omega)
  have hadd : Addr.add ⟨b, off, none⟩ (i.toNat * n) = ⟨b, off + i.toNat * n, none⟩ := by
    unfold Addr.add; split
    · rename_i h0; rw [h0]; rfl
    · rfl
  simp [execOp, Instr.indexAt, e1, e2, run_under hu, asIntOf, h0, h1, run_size hs, hadd, go_sem, UponQ]
  exact ⟨Keeps.refl _ _, b, _, rfl, hb, hn, (hc _ _ (gi_get h0 h1)).2⟩

theorem op_load1 {a : AV} (hB : loadB P t false 1 = true) (hx : af.ev x = .ptr [a]) (hk : K (af.put d a)) : opA P ⟨d, .load t x, ty, pos, after, g⟩ af K := by
  refine ⟨_, fun M w ev _ h => ?_, hk⟩
  obtain ⟨b, off, e1, _, _, e4⟩ := opnd_p h (x := x) (by simp [Op.operands]) hx
  obtain ⟨⟨D, hu, ha⟩, hs⟩ := loadB_spec hB
  obtain ⟨u, h1, h2⟩ := e4 0 a rfl
  have h1' : w.cell? ⟨b, off, none⟩ = some u := by simpa using h1
  simp [execOp, Instr.loadAt, Instr.sureAddr, loadVar, run_agg hu, ha, e1, h1', go_sem, UponQ]
  exact ⟨Keeps.refl _ _, h2⟩

theorem run_cells {w : World} {b : Nat} : ∀ (n off i : Nat) (vs : List Value) (acc : Array Value), (∀ j, j < n → ∃ u, vs[j]? = some u ∧ w.cell? ⟨b, off + (i + j), none⟩ = some u) → vs.length = n →
    (loadCellsFrom ⟨b, off, none⟩ i n acc).run P w = .ok (acc ++ vs.toArray) w
  | 0, off, i, vs, acc, _, hl => by
    obtain rfl : vs = [] := List.length_eq_zero_iff.1 hl
    simp [loadCellsFrom, go_sem]
  | n + 1, off, i, v :: vs, acc, h, hl => by
    obtain ⟨u, h1, h2⟩ := h 0 (by omega)
    obtain rfl : v = u := by simpa using h1
    have hadd : Addr.add ⟨b, off, none⟩ i = ⟨b, off + i, none⟩ := by
      unfold Addr.add; split
      · rename_i h0; rw [h0]; rfl
      · rfl
    have h2' : w.cell? ⟨b, off + i, none⟩ = some v := by simpa using h2
    have ih := run_cells (w := w) (b := b) n off (i + 1) vs (acc.push v) (fun j hj => by
      obtain ⟨u, h3, h4⟩ := h (j + 1) (by omega)
      exact ⟨u, by simpa using h3, by rw [← h4]; congr 2; omega⟩) (by simpa using hl)
    simp [loadCellsFrom, hadd, h2', ih, go_sem]

theorem fit_cells {M : BSet} {w : World} {b off : Nat} : ∀ {c : List AV}, CellsAt M w b off c → ∃ vs : List Value, Fit M w c vs ∧ ∀ j, j < c.length → ∃ u, vs[j]? = some u ∧ w.cell? ⟨b, off + j, none⟩ = some u
  | [], _ => ⟨[], trivial, fun j hj => by simp at hj⟩
  | a :: c, h => by
    obtain ⟨u, h1, h2⟩ := h 0 a rfl
    obtain ⟨vs, h3, h4⟩ := fit_cells (M := M) (w := w) (b := b) (off := off + 1) (c := c) (fun j a hj => by
      obtain ⟨u, h5, h6⟩ := h (j + 1) a (by simpa using hj)
      exact ⟨u, by rw [← h5]; congr 2; omega, h6⟩)
    refine ⟨u :: vs, ⟨h2, h3⟩, fun j hj => ?_⟩
    cases j with
    | zero => exact ⟨u, rfl, h1⟩
    | succ j =>
      obtain ⟨u', h5, h6⟩ := h4 j (by simpa using hj)
      exact ⟨u', by simpa using h5, by rw [← h6]; congr 2; omega⟩

theorem op_loadN (hx : af.ev x = .ptr c) (hB : loadB P t true c.length = true) (hk : K (af.put d (.agg c))) : opA P ⟨d, .load t x, ty, pos, after, g⟩ af K := by
  refine ⟨_, fun M w ev _ h => ?_, hk⟩
  obtain ⟨b, off, e1, _, _, e4⟩ := opnd_p h (x := x) (by simp [Op.operands]) hx
  obtain ⟨⟨D, hu, ha⟩, hs⟩ := loadB_spec hB
  obtain ⟨vs, h1, h2⟩ := fit_cells e4
  have h3 := run_cells (P := P) (w := w) (b := b) c.length off 0 vs #[] (fun j hj => by simpa using h2 j hj) h1.length.symm
  simp [execOp, Instr.loadAt, Instr.sureAddr, loadVar, run_agg hu, ha, e1, run_size hs, loadCells, h3, go_sem, UponQ]
  exact ⟨Keeps.refl _ _, vs, by simp, h1⟩

theorem run_callFunc {f : FuncId} {fn : Func} {args : Array Value} {w : World} (hf : P.funcs[f]? = some fn) (hb : fn.body.isNone = false) (hnm : (fn.name == "runtime.NumGoroutine") = false) : (callFunc f args).run P w = .ok (.enter f args) w := by
  show (Sem.program _).run P w = _
  simp only [Sem.run, Sem.bind, hf, hnm, hb]
  rfl
/-- A call of a function that touches nothing in use. -/
theorem op_call {f : FuncId} {fn : Func} {args : List AV} {r : AV} {xs : List Operand} {ats : Array TypeId} (hp : Pure P f args r) (hf : P.funcs[f]? = some fn) (hb : fn.body.isNone = false) (hnm : (fn.name == "runtime.NumGoroutine") = false)
    (hx : xs.map af.ev = args) (hk : K (af.put d r)) : opA P ⟨d, .call { callee := .value (.func f), args := xs.toArray, argTypes := ats }, ty, pos, after, g⟩ af K := by
  refine ⟨r, fun M w ev hM h => ?_, hk⟩
  have hfit : Fit M w args (xs.map ev) := by
    rw [← hx]
    have h' : ∀ x ∈ xs, (af.ev x).p M w (ev x) := fun x hm => h x (by simp [Op.operands, Call.operands, hm])
    clear hx h
    induction xs with
    | nil => trivial
    | cons x xs ih => exact ⟨h' x (by simp), ih (fun y hy => h' y (by simp [hy]))⟩
  have he := h (.func f) (by simp [Op.operands, Call.operands])
  have he' : ev (.func f) = .func (.func f) #[] #[] := he
  have hrun : (execOp ev ⟨d, .call { callee := .value (.func f), args := xs.toArray, argTypes := ats }, ty, pos, after, g⟩).run P w = .ok (.enter f (xs.map ev).toArray) w := by
    simp [execOp, resolve, he', Deferred.ofValue, invoke, run_callFunc hf hb hnm, go_sem]
  rw [hrun]
  exact hp M w _ hM hfit
theorem op_eql_agg2 {t t' : TypeId} {x y : Operand} {a0 a1 b0 b1 : Value} {p : Prop} [Decidable p] (hg : P.eqGuardType P.depth t = false) (heq : ∀ w, (Op.equal t (.agg #[a0, a1]) (.agg #[b0, b1])).run P w = .ok (decide p) w)
    (hx : af.ev x = .agg [.exact a0, .exact a1]) (hy : af.ev y = .agg [.exact b0, .exact b1]) (hk : K (af.put d (.exact (.bool (decide p))))) : opA P ⟨d, .binOp .eql t x y t', ty, pos, after, g⟩ af K := by
  refine ⟨_, fun M w ev _ h => ?_, hk⟩
  obtain ⟨vs, e1, f1⟩ := opnd_p h (x := x) (by simp [Op.operands]) hx
  obtain ⟨us, e2, f2⟩ := opnd_p h (x := y) (by simp [Op.operands]) hy
  match vs, f1 with
  | [u0, u1], ⟨g0, g1, _⟩ =>
    match us, f2 with
    | [v0, v1], ⟨k0, k1, _⟩ =>
      obtain rfl : u0 = a0 := g0
      obtain rfl : u1 = a1 := g1
      obtain rfl : v0 = b0 := k0
      obtain rfl : v1 = b1 := k1
      simp [execOp, eqGuard, run_prog, e1, e2, binOp, hg, heq, go_sem, UponQ]
      exact ⟨Keeps.refl _ _, rfl⟩
theorem op_neq_agg2 {t t' : TypeId} {x y : Operand} {a0 a1 b0 b1 : Value} {p : Prop} [Decidable p] (hg : P.eqGuardType P.depth t = false) (heq : ∀ w, (Op.equal t (.agg #[a0, a1]) (.agg #[b0, b1])).run P w = .ok (decide p) w)
    (hx : af.ev x = .agg [.exact a0, .exact a1]) (hy : af.ev y = .agg [.exact b0, .exact b1]) (hk : K (af.put d (.exact (.bool (decide (¬ p)))))) : opA P ⟨d, .binOp .neq t x y t', ty, pos, after, g⟩ af K := by
  refine ⟨_, fun M w ev _ h => ?_, hk⟩
  obtain ⟨vs, e1, f1⟩ := opnd_p h (x := x) (by simp [Op.operands]) hx
  obtain ⟨us, e2, f2⟩ := opnd_p h (x := y) (by simp [Op.operands]) hy
  match vs, f1 with
  | [u0, u1], ⟨g0, g1, _⟩ =>
    match us, f2 with
    | [v0, v1], ⟨k0, k1, _⟩ =>
      obtain rfl : u0 = a0 := g0
      obtain rfl : u1 = a1 := g1
      obtain rfl : v0 = b0 := k0
      obtain rfl : v1 = b1 := k1
      simp [execOp, eqGuard, run_prog, e1, e2, binOp, hg, heq, go_sem, UponQ]
      exact ⟨Keeps.refl _ _, by by_cases h : p <;> simp [h] <;> rfl⟩
theorem AV.le_int {x : AV} {k : IntKind} {a b : Int} (hx : x = .exact (.int k a)) (h : a = b) : AV.le x (.exact (.int k b)) := by rw [hx, h]; exact AV.le_refl _
theorem AV.le_bool {x : AV} {a b : Bool} (hx : x = .exact (.bool a)) (h : a = b) : AV.le x (.exact (.bool b)) := by rw [hx, h]; exact AV.le_refl _
end
end

end Go.Proofs.Ytkplmgdmkfgjhaa
