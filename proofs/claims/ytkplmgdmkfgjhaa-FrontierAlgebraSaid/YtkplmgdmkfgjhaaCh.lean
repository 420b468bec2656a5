/- Function values; slices against nil; tests of which one answer is certain. -/
import Derived.Test.YtkplmgdmkfgjhaaCg
namespace Go.Proofs.Ytkplmgdmkfgjhaa
open Go.RowKit

section
variable {P : Program} {E : Env} {n : Nat} {af : AF} {σ : Items} {K : AF → Prop} {d : Option Tmp} {ty : TypeId} {pos : String} {after : Array Edge} {g : Option (Nat × Bool)} {ks : List KFr}

/-- A test: true only where p holds. -/
def AV.nilq (p : Prop) : AV := ⟨fun _ _ v => ∃ b : Bool, v = .bool b ∧ (b = true → p), fun _ _ h => h⟩
/-- A test: false only where p holds. -/
def AV.nilqn (p : Prop) : AV := ⟨fun _ _ v => ∃ b : Bool, v = .bool b ∧ (b = false → p), fun _ _ h => h⟩

theorem op_not_nilq {x : Operand} {t : TypeId} {p : Prop} (hx : af.ev x = .nilq p) (hk : K (af.put d (.nilqn p))) : opA P ⟨d, .unOp .not t x, ty, pos, after, g⟩ af K := by
  refine ⟨_, fun M w ev _ h => ?_, hk⟩
  obtain ⟨b, e1, hb⟩ := opnd_p h (x := x) (by simp [Op.operands]) hx
  simp [execOp, e1, Op.unary, go_sem, UponQ]
  exact ⟨Keeps.refl _ _, !b, rfl, fun h => hb (by simpa using h)⟩
theorem awp_condu {c : Operand} {x y : Code} {QA : Exit → AF → Items → Prop} {p : Prop} (hc : af.ev c = .nilq p) (ht : p → awp P E n x QA af σ) (hf : awp P E n y QA af σ) : awp P E n (.cond c x y) QA af σ := by
  intro a w hh
  have h1 := hh.ev c
  rw [hc] at h1
  obtain ⟨b, e1, hb⟩ := h1
  exact wp_cond_split e1 (fun e => ht (hb e) a w hh) (fun _ => hf a w hh)
theorem k_cond_u {c : Operand} {x y : Code} {p : Prop} (hc : af.ev c = .nilq p) (ht : p → awp P E n x (den P E n ks) af σ) (hf : awp P E n y (den P E n ks) af σ) : awp P E n (.cond c x y) (den P E n ks) af σ := awp_condu hc ht hf
theorem k_cond_un {c : Operand} {x y : Code} {p : Prop} (hc : af.ev c = .nilqn p) (ht : awp P E n x (den P E n ks) af σ) (hf : p → awp P E n y (den P E n ks) af σ) : awp P E n (.cond c x y) (den P E n ks) af σ := by
  intro a w hh
  have h1 := hh.ev c
  rw [hc] at h1
  obtain ⟨b, e1, hb⟩ := h1
  exact wp_cond_split e1 (fun _ => ht a w hh) (fun e => hf (hb e) a w hh)

variable {α : Type} {m : Nat} {enc : α → List AV} {xs : List α} {v : Value}
theorem equal_nil {t : TypeId} {e : TypeId} (ht : P.underlying t = some (.slice e)) (A : Option Addr) (l c : Nat) (w : World) : (Op.equal t (.slice A l c) (.slice none 0 0)).run P w = .ok A.isNone w := by
  have key : ∀ D : Nat, (Op.equalIn (D + 1) t (.slice A l c) (.slice none 0 0)).run P w = .ok A.isNone w := by
    intro D
    cases A <;> simp [Op.equalIn, run_underlying ht]
  exact key 9999
theorem slice_under {t : TypeId} (h : isSliceB P t = true) : ∃ e, P.underlying t = some (.slice e) := by
  unfold isSliceB at h
  split at h
  · rename_i e he; exact ⟨_, he⟩
  · cases h
theorem op_eqnil_row {t t' : TypeId} {x : Operand} (hB : isSliceB P t = true) (hx : af.ev x = .row m enc xs) (hk : K (af.put d (.nilq (xs = [])))) : opA P ⟨d, .binOp .eql t x (.const (.slice none 0 0)) t', ty, pos, after, g⟩ af K := by
  refine ⟨_, fun M w ev _ h => ?_, hk⟩
  obtain ⟨e, ht⟩ := slice_under hB
  obtain ⟨A, c, e1, _, _, h4⟩ := opnd_p h (x := x) (by simp [Op.operands]) hx
  have e2 := opnd h (x := .const (.slice none 0 0)) (by simp [Op.operands]) rfl
  simp [execOp, eqGuard, e1, e2, binOp, equal_nil ht, go_sem, UponQ]
  refine ⟨Keeps.refl _ _, A.isNone, rfl, fun hA => ?_⟩
  cases xs with
  | nil => rfl
  | cons y ys =>
    obtain ⟨b, off, rfl, _⟩ := h4 (by simp)
    cases hA
theorem op_neqnil_row {t t' : TypeId} {x : Operand} (hB : isSliceB P t = true) (hx : af.ev x = .row m enc xs) (hk : K (af.put d (.nilqn (xs = [])))) : opA P ⟨d, .binOp .neq t x (.const (.slice none 0 0)) t', ty, pos, after, g⟩ af K := by
  refine ⟨_, fun M w ev _ h => ?_, hk⟩
  obtain ⟨e, ht⟩ := slice_under hB
  obtain ⟨A, c, e1, _, _, h4⟩ := opnd_p h (x := x) (by simp [Op.operands]) hx
  have e2 := opnd h (x := .const (.slice none 0 0)) (by simp [Op.operands]) rfl
  simp [execOp, eqGuard, e1, e2, binOp, equal_nil ht, go_sem, UponQ]
  refine ⟨Keeps.refl _ _, !A.isNone, by simp, fun hA => ?_⟩
  cases xs with
  | nil => rfl
  | cons y ys =>
    obtain ⟨b, off, rfl, _⟩ := h4 (by simp)
    simp at hA

/-! ### Function values -/
/-- A function value: called with what args i says, it touches nothing in use and gives back what f i says. -/
def AV.fn (P : Program) {ι ρ : Type} (args : ι → List AV) (f : ι → Option ρ) (res : ρ → AV) : AV :=
  ⟨fun M w v => ∃ (k : FuncId) (fn : Func) (caps : List Value) (avs : List AV), v = .func (.func k) #[] caps.toArray ∧ P.funcs[k]? = some fn ∧ (fn.body.isNone || fn.name == "runtime.NumGoroutine") = false ∧ Fit M w avs caps ∧ ∀ i r, f i = some r → Pure P k (args i ++ avs) (res r),
   fun hk hm ⟨k, fn, caps, avs, h1, h2, h3, h4, h5⟩ => ⟨k, fn, caps, avs, h1, h2, h3, h4.keep hk hm, h5⟩⟩
theorem Fit.append {M : BSet} {w : World} {xs ys : List AV} {vs us : List Value} (h : Fit M w xs vs) (h' : Fit M w ys us) : Fit M w (xs ++ ys) (vs ++ us) := Fit.app h h'
theorem fit_opnds {xs : List Operand} {args : List AV} {M : BSet} {w : World} {ev : Operand → Value} (h : ∀ x ∈ xs, (af.ev x).p M w (ev x)) (hx : LEs (xs.map af.ev) args) : Fit M w args (xs.map ev) := by
  refine LE_fit hx ?_
  clear hx
  induction xs with
  | nil => trivial
  | cons x xs ih => exact ⟨h x (by simp), ih (fun y hy => h y (by simp [hy]))⟩
theorem op_callfn {ι ρ : Type} {args : ι → List AV} {f : ι → Option ρ} {res : ρ → AV} (i : ι) {r : ρ} {z : Operand} {xs : List Operand} {ats : Array TypeId} (hz : af.ev z = .fn P args f res) (hr : f i = some r)
    (hx : LEs (xs.map af.ev) (args i)) (hk : K (af.put d (res r))) : opA P ⟨d, .call { callee := .value z, args := xs.toArray, argTypes := ats }, ty, pos, after, g⟩ af K := by
  refine ⟨res r, fun M w ev hM h => ?_, hk⟩
  obtain ⟨k, fn, caps, avs, e1, e2, e3, e4, e5⟩ := opnd_p h (x := z) (by simp [Op.operands, Call.operands]) hz
  have hfit : Fit M w (args i) (xs.map ev) := fit_opnds (fun x hm => h x (by simp [Op.operands, Call.operands, hm])) hx
  simp only [Bool.or_eq_false_iff] at e3
  have hrun : (execOp ev ⟨d, .call { callee := .value z, args := xs.toArray, argTypes := ats }, ty, pos, after, g⟩).run P w = .ok (.enter k (xs.map ev ++ caps).toArray) w := by
    simp [execOp, resolve, e1, Deferred.ofValue, invoke, run_callFunc e2 e3.1 e3.2, go_sem]
  rw [hrun]
  exact e5 i r hr M w _ hM (hfit.app e4)
/-- A function of the program, as a value. -/
theorem fn_le {ι ρ : Type} {args : ι → List AV} {f : ι → Option ρ} {res : ρ → AV} {k : FuncId} {fn : Func} (h2 : P.funcs[k]? = some fn) (h3 : (fn.body.isNone || fn.name == "runtime.NumGoroutine") = false) (h : ∀ i r, f i = some r → Pure P k (args i) (res r)) :
    AV.le (.exact (.func (.func k) #[] #[])) (.fn P args f res) := fun M w v hv => ⟨k, fn, [], [], hv, h2, h3, trivial, fun i r hr => by rw [List.append_nil]; exact h i r hr⟩
theorem fn_mono {ι ρ : Type} {args : ι → List AV} {f f' : ι → Option ρ} {res : ρ → AV} (h : ∀ i r, f' i = some r → f i = some r) : AV.le (.fn P args f res) (.fn P args f' res) := fun M w v ⟨k, fn, caps, avs, h1, h2, h3, h4, h5⟩ => ⟨k, fn, caps, avs, h1, h2, h3, h4, fun i r hr => h5 i r (h i r hr)⟩
/-- A closure made. -/
theorem op_makeFunc {ι ρ : Type} {args : ι → List AV} {f : ι → Option ρ} {res : ρ → AV} {k : FuncId} {fn : Func} {cs : List Operand} (h2 : P.funcs[k]? = some fn) (h3 : (fn.body.isNone || fn.name == "runtime.NumGoroutine") = false) (avs : List AV) (hx : LEs (cs.map af.ev) avs)
    (h : ∀ i r, f i = some r → Pure P k (args i ++ avs) (res r)) (hk : K (af.put d (.fn P args f res))) : opA P ⟨d, .makeFunc (.func k) #[] cs.toArray, ty, pos, after, g⟩ af K := by
  refine ⟨_, fun M w ev hM hh => ?_, hk⟩
  have hfit : Fit M w avs (cs.map ev) := fit_opnds (fun x hm => hh x (by simp [Op.operands, hm])) hx
  simp [execOp, Instr.makeFunc, go_sem, UponQ]
  exact ⟨Keeps.refl _ _, k, fn, cs.map ev, avs, by simp, h2, h3, hfit, h⟩
end
end Go.Proofs.Ytkplmgdmkfgjhaa
