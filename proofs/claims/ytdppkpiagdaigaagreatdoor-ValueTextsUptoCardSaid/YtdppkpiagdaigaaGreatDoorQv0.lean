/- Words of the models: no program in sight. -/
import GoSem.Core.View
import Derived.IntWalk
import Derived.Lib.Join
import Derived.Lib.ItoaNum
namespace Go.Proofs.YtdppkpiagdaigaaGreatDoor

def need (p : Prop) [Decidable p] {ρ : Type} (m : Option ρ) : Option ρ := if p then m else none
theorem need_some {p : Prop} [Decidable p] {ρ : Type} {m : Option ρ} {r : ρ} (h : need p m = some r) : p ∧ m = some r := by
  unfold need at h; split at h
  · exact ⟨‹_›, h⟩
  · cases h
theorem need_pos {p : Prop} [Decidable p] {ρ : Type} {m : Option ρ} (h : p) : need p m = m := if_pos h
def jn {κ ρ : Type} (k : κ) (m : κ → ρ) : ρ := m k
def bnd1 {α ρ : Type} (m : Option α) (k : α → Option ρ) : Option ρ := m.bind k
theorem bnd1_some {α ρ : Type} {m : Option α} {k : α → Option ρ} {r : ρ} (h : bnd1 m k = some r) : ∃ a, m = some a ∧ k a = some r := by
  unfold bnd1 at h; exact Option.bind_eq_some_iff.1 h
/-- A test of which only one answer is certain: where p holds, both roads must come to the same. -/
noncomputable def nilc (p : Prop) {ρ : Type} (a b : Option ρ) : Option ρ := by
  classical exact if p then (if a = b then a else none) else b
theorem nilc_some {p : Prop} {ρ : Type} {a b : Option ρ} {r : ρ} (h : nilc p a b = some r) : (p → a = some r) ∧ b = some r := by
  unfold nilc at h
  split at h
  · split at h
    · rename_i e; exact ⟨fun _ => h, e ▸ h⟩
    · cases h
  · rename_i hp; exact ⟨fun h' => absurd h' hp, h⟩
theorem nilc_eq {p : Prop} {ρ : Type} {a b : Option ρ} (h : p → a = b) : nilc p a b = b := by
  unfold nilc
  split
  · rename_i hp; rw [if_pos (h hp), h hp]
  · rfl
theorem ite_t {p : Prop} [Decidable p] {ρ : Type} {a b : Option ρ} {r : ρ} (h : (if p then a else b) = some r) (hp : p) : a = some r := by rwa [if_pos hp] at h
theorem ite_f {p : Prop} [Decidable p] {ρ : Type} {a b : Option ρ} {r : ρ} (h : (if p then a else b) = some r) (hp : ¬ p) : b = some r := by rwa [if_neg hp] at h
def FU : Nat := 18446744073709551616
abbrev i64 (x : Int) : Int := IntKind.i64.wrap x
theorem i64_id {x : Int} (h : -9223372036854775808 ≤ x ∧ x ≤ 9223372036854775807) : i64 x = x := IntWalk.i64_in x (by omega)
def u8i (x : Int) : UInt8 := UInt8.ofNat (IntKind.u8.wrap x).toNat
/-- Element number i. -/
def gi {α : Type} [Inhabited α] (xs : List α) (i : Int) : α := (xs[i.toNat]?).getD default
theorem gi_get {α : Type} [Inhabited α] {xs : List α} {i : Int} (h0 : 0 ≤ i) (h1 : i < xs.length) : xs[i.toNat]? = some (gi xs i) := by
  have : i.toNat < xs.length := by omega
  simp [gi, List.getElem?_eq_getElem this]
theorem gi_nat {α : Type} [Inhabited α] {xs : List α} {i : Nat} (h : i < xs.length) : gi xs (i : Int) = xs[i] := by simp [gi, h]
def bOr (k : IntKind) (a b : Int) : Int := k.wrap ((BitVec.ofInt k.bits a ||| BitVec.ofInt k.bits b).toNat : Int)
/-- The order of strings. -/
def ltB : List UInt8 → List UInt8 → Bool
  | _, [] => false
  | [], _ :: _ => true
  | a :: x, b :: y => a < b || (a == b && ltB x y)
abbrev ltS (a b : List UInt8) : Prop := ltB a b = true
theorem wrap_u8n (x : Int) : IntKind.u8.wrap x = x % 256 := by
  unfold IntKind.wrap IntKind.bits IntKind.signed
  simp
theorem u8i_eq (x : Int) : IntKind.u8.wrap x = ((u8i x).toNat : Int) := by
  unfold u8i
  rw [wrap_u8n]
  have : (x % 256).toNat < 256 := by omega
  simp; omega
theorem u8_lt (a : UInt8) : (a.toNat : Int) < 256 := by have := UInt8.toNat_lt a; omega
theorem wrap_u8 {k : IntKind} (hk : (k matches .i8) = false) (a : UInt8) : k.wrap (a.toNat : Int) = (a.toNat : Int) := by
  have := u8_lt a
  cases k <;> simp at hk <;> unfold IntKind.wrap IntKind.bits IntKind.signed <;> simp <;> omega
end Go.Proofs.YtdppkpiagdaigaaGreatDoor
/- The models of the sorts. -/
namespace Go.Proofs.YtdppkpiagdaigaaGreatDoor
section
variable {α : Type}
noncomputable def cfOf (c : α → α → Option Int) (x y : α) : Int := (c x y).getD 0
noncomputable def ltC (c : α → α → Option Int) (x y : α) : Bool := decide (cfOf c x y < 0)
/-- c compares by a strict total order. -/
structure CmpOk (c : α → α → Option Int) : Prop where
  all : ∀ x y, ∃ r, c x y = some r
  irrefl : ∀ x, ltC c x x = false
  trans : ∀ x y z, ltC c x y = true → ltC c y z = true → ltC c x z = true
  ntrans : ∀ x y z, ltC c x y = false → ltC c y z = false → ltC c x z = false
  total : ∀ x y, ltC c x y = false → ltC c y x = false → x = y
noncomputable def sortC (c : α → α → Option Int) (xs : List α) : List α := xs.mergeSort fun x y => !ltC c y x
noncomputable def m_sortby (c : α → α → Option Int) (xs : List α) : Option (List α) := by
  classical exact if xs.length < 4611686018427387904 ∧ CmpOk c then some (sortC c xs) else none
theorem m_sortby_some {c : α → α → Option Int} {xs r : List α} (h : m_sortby c xs = some r) : xs.length < 4611686018427387904 ∧ CmpOk c ∧ r = sortC c xs := by
  unfold m_sortby at h
  split at h
  · rename_i hc; exact ⟨hc.1, hc.2, (Option.some.inj h).symm⟩
  · cases h
theorem m_sortby_eq {c : α → α → Option Int} {xs : List α} (hl : xs.length < 4611686018427387904) (hc : CmpOk c) : m_sortby c xs = some (sortC c xs) := by
  unfold m_sortby; rw [if_pos ⟨hl, hc⟩]
end
end Go.Proofs.YtdppkpiagdaigaaGreatDoor
/- The model of strings.Join. -/
namespace Go.Proofs.YtdppkpiagdaigaaGreatDoor
def m_join (a0 : List (List UInt8)) (a1 : List UInt8) : Option (List UInt8) :=
  need (a0.length ≤ 140737488355328 ∧ (Lib.join a0 a1).length ≤ 140737488355328) (some (Lib.join a0 a1))
end Go.Proofs.YtdppkpiagdaigaaGreatDoor
/- The model of strconv.FormatInt at base 10. -/
namespace Go.Proofs.YtdppkpiagdaigaaGreatDoor
def m_itoa (a0 a1 : Int) : Option (List UInt8) :=
  need (a1 = 10 ∧ -9223372036854775808 ≤ a0 ∧ a0 ≤ 9223372036854775807) (some (Lib.itoa a0))
end Go.Proofs.YtdppkpiagdaigaaGreatDoor
