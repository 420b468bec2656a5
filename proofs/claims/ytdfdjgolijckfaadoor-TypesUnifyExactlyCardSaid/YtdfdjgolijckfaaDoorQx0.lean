/- Words of the models: no program in sight. -/
import GoSem.Core.View
import Derived.IntWalk
import Derived.Lib.Join
import Derived.Lib.ItoaNum
namespace Go.Proofs.YtdfdjgolijckfaaDoor

def need (p : Prop) [Decidable p] {ρ : Type} (m : Option ρ) : Option ρ := if p then m else none
theorem need_some {p : Prop} [Decidable p] {ρ : Type} {m : Option ρ} {r : ρ} (h : need p m = some r) : p ∧ m = some r := by
  unfold need at h; split at h
  · exact ⟨‹_›, h⟩
  · cases h
theorem need_pos {p : Prop} [Decidable p] {ρ : Type} {m : Option ρ} (h : p) : need p m = m := if_pos h
def jn {κ ρ : Type} (k : κ) (m : κ → ρ) : ρ := m k
def bnd1 {α ρ : Type} (m : Option α) (k : α → Option ρ) : Option ρ := m.bind k
theorem bnd1_some {α ρ : Type} {m : Option α} {k : α → Option ρ} {r : ρ} (h : bnd1 m k = some r) : ∃ a, m = some a ∧ k a = some r := by
  unfold bnd1 at h; exact Option.bind_eq_some_iff.1 h
/-- A test of which only one answer is certain: where p holds, both roads must come to the same. -/
noncomputable def nilc (p : Prop) {ρ : Type} (a b : Option ρ) : Option ρ := by
  classical exact if p then (if a = b then a else none) else b
theorem nilc_some {p : Prop} {ρ : Type} {a b : Option ρ} {r : ρ} (h : nilc p a b = some r) : (p → a = some r) ∧ b = some r := by
  unfold nilc at h
  split at h
  · split at h
    · rename_i e; exact ⟨fun _ => h, e ▸ h⟩
    · cases h
  · rename_i hp; exact ⟨fun h' => absurd h' hp, h⟩
theorem nilc_eq {p : Prop} {ρ : Type} {a b : Option ρ} (h : p → a = b) : nilc p a b = b := by
  unfold nilc
  split
  · rename_i hp; rw [if_pos (h hp), h hp]
  · rfl
theorem ite_t {p : Prop} [Decidable p] {ρ : Type} {a b : Option ρ} {r : ρ} (h : (if p then a else b) = some r) (hp : p) : a = some r := by rwa [if_pos hp] at h
theorem ite_f {p : Prop} [Decidable p] {ρ : Type} {a b : Option ρ} {r : ρ} (h : (if p then a else b) = some r) (hp : ¬ p) : b = some r := by rwa [if_neg hp] at h
def FU : Nat := 18446744073709551616
abbrev i64 (x : Int) : Int := IntKind.i64.wrap x
theorem i64_id {x : Int} (h : -9223372036854775808 ≤ x ∧ x ≤ 9223372036854775807) : i64 x = x := IntWalk.i64_in x (by omega)
/-- Element number i. -/
def gi {α : Type} [Inhabited α] (xs : List α) (i : Int) : α := (xs[i.toNat]?).getD default
theorem gi_get {α : Type} [Inhabited α] {xs : List α} {i : Int} (h0 : 0 ≤ i) (h1 : i < xs.length) : xs[i.toNat]? = some (gi xs i) := by
  have : i.toNat < xs.length := by omega
  simp [gi, List.getElem?_eq_getElem this]
theorem gi_nat {α : Type} [Inhabited α] {xs : List α} {i : Nat} (h : i < xs.length) : gi xs (i : Int) = xs[i] := by simp [gi, h]
end Go.Proofs.YtdfdjgolijckfaaDoor
/- Words for maps kept as lists of keys and elements. -/
namespace Go.Proofs.YtdfdjgolijckfaaDoor
section
variable {κ β : Type} [DecidableEq κ]
/-- What lies at a key. -/
def lookL : List (κ × β) → κ → Option β
  | [], _ => none
  | x :: l, k => if x.1 = k then some x.2 else lookL l k
/-- An element laid at a key. -/
def putL : List (κ × β) → κ → β → List (κ × β)
  | [], k, v => [(k, v)]
  | x :: l, k, v => if x.1 = k then (k, v) :: l else x :: putL l k v
end
section
variable {ξ σ ρ : Type}
/-- The rounds of a range, in an order. -/
def foldB (B : ξ → σ → Option σ) : List ξ → σ → Option σ
  | [], s => some s
  | x :: l, s => (B x s).bind (foldB B l)
open Classical in
/-- A range in whatever order, and what follows: all orders come to the same. -/
noncomputable def rngC (l : List ξ) (B : ξ → σ → Option σ) (s0 : σ) (K : σ → Option ρ) : Option ρ :=
  if h : ∃ r, ∀ l' : List ξ, l'.Perm l → (foldB B l' s0).bind K = some r then some h.choose else none
theorem rngC_some {l : List ξ} {B : ξ → σ → Option σ} {s0 : σ} {K : σ → Option ρ} {r : ρ} (h : rngC l B s0 K = some r) : ∀ l' : List ξ, l'.Perm l → (foldB B l' s0).bind K = some r := by
  unfold rngC at h
  split at h
  · rename_i h0; rw [← Option.some.inj h]; exact h0.choose_spec
  · cases h
theorem rngC_mk {l : List ξ} {B : ξ → σ → Option σ} {s0 : σ} {K : σ → Option ρ} {r : ρ} (h : ∀ l' : List ξ, l'.Perm l → (foldB B l' s0).bind K = some r) : rngC l B s0 K = some r := by
  have h0 : ∃ r, ∀ l' : List ξ, l'.Perm l → (foldB B l' s0).bind K = some r := ⟨r, h⟩
  unfold rngC
  rw [dif_pos h0]
  have h1 := h0.choose_spec l (List.Perm.refl l)
  rw [h l (List.Perm.refl l)] at h1
  exact h1.symm
theorem foldB_app (B : ξ → σ → Option σ) : ∀ (a b : List ξ) (s : σ), foldB B (a ++ b) s = (foldB B a s).bind (foldB B b)
  | [], _, _ => rfl
  | x :: a, b, s => by
    simp only [List.cons_append, foldB]
    cases B x s with
    | none => rfl
    | some t => exact foldB_app B a b t
end
end Go.Proofs.YtdfdjgolijckfaaDoor
/- The models of the sorts. -/
namespace Go.Proofs.YtdfdjgolijckfaaDoor
section
variable {α : Type}
noncomputable def cfOf (c : α → α → Option Int) (x y : α) : Int := (c x y).getD 0
noncomputable def ltC (c : α → α → Option Int) (x y : α) : Bool := decide (cfOf c x y < 0)
noncomputable def sortC (c : α → α → Option Int) (xs : List α) : List α := xs.mergeSort fun x y => !ltC c y x
end
end Go.Proofs.YtdfdjgolijckfaaDoor
/- The model of the sort by a closure: an order of the row's own members. -/
namespace Go.Proofs.YtdfdjgolijckfaaDoor
section
variable {α : Type}
/-- c orders the members of S by a strict total order. -/
structure CmpOn (S : α → Prop) (c : α → α → Option Int) : Prop where
  all : ∀ x y, S x → S y → ∃ r, c x y = some r
  irrefl : ∀ x, S x → ltC c x x = false
  trans : ∀ x y z, S x → S y → S z → ltC c x y = true → ltC c y z = true → ltC c x z = true
  ntrans : ∀ x y z, S x → S y → S z → ltC c x y = false → ltC c y z = false → ltC c x z = false
  total : ∀ x y, S x → S y → ltC c x y = false → ltC c y x = false → x = y
noncomputable def m_sortbyOn (xs : List α) (c : α → α → Option Int) : Option (List α) := by
  classical exact if xs.length < 4611686018427387904 ∧ CmpOn (fun x => x ∈ xs) c then some (sortC c xs) else none
theorem m_sortbyOn_some {c : α → α → Option Int} {xs r : List α} (h : m_sortbyOn xs c = some r) : xs.length < 4611686018427387904 ∧ CmpOn (fun x => x ∈ xs) c ∧ r = sortC c xs := by
  unfold m_sortbyOn at h
  split at h
  · rename_i hc; exact ⟨hc.1, hc.2, (Option.some.inj h).symm⟩
  · cases h
theorem m_sortbyOn_eq {c : α → α → Option Int} {xs : List α} (hl : xs.length < 4611686018427387904) (hc : CmpOn (fun x => x ∈ xs) c) : m_sortbyOn xs c = some (sortC c xs) := by
  unfold m_sortbyOn; rw [if_pos ⟨hl, hc⟩]
noncomputable def m_sortOnBy (c : α → α → Option Int) (xs : List α) : Option (List α) := by
  classical exact need xs.Nodup (m_sortbyOn xs c)
theorem m_sortOnBy_some {c : α → α → Option Int} {xs r : List α} (h : m_sortOnBy c xs = some r) : xs.Nodup ∧ m_sortbyOn xs c = some r := by
  classical exact need_some h
theorem m_sortOnBy_eq {c : α → α → Option Int} {xs : List α} (hd : xs.Nodup) : m_sortOnBy c xs = m_sortbyOn xs c := by
  classical exact need_pos hd
end
end Go.Proofs.YtdfdjgolijckfaaDoor
/- The model of strings.Join. -/
namespace Go.Proofs.YtdfdjgolijckfaaDoor
def m_join (a0 : List (List UInt8)) (a1 : List UInt8) : Option (List UInt8) :=
  need (a0.length ≤ 140737488355328 ∧ (Lib.join a0 a1).length ≤ 140737488355328) (some (Lib.join a0 a1))
end Go.Proofs.YtdfdjgolijckfaaDoor
/- The model of Read. -/
namespace Go.Proofs.YtdfdjgolijckfaaDoor
noncomputable def m_terms_Reader_Read_B2 (self_terms_Reader_Read : (List (Int × Int)) → (List (Int × Int × Int)) → (List (Int × Int × (List Int) × Int)) → Option (Int × (List (Int × Int × Int)) × (List (Int × Int)) × (List (Int × Int × (List Int) × Int)))) (a1 : List (Int × Int × Int)) (k8 : (List (Int × Int × (List Int) × Int)) → (List (Int × Int)) → (List (Int × Int × Int)) → (List Int) → Option (Int × (List (Int × Int × Int)) × (List (Int × Int)) × (List (Int × Int × (List Int) × Int)))) (rec2 : (List (Int × Int × (List Int) × Int)) → (List (Int × Int)) → (List (Int × Int × Int)) → (List Int) → Int → Option (Int × (List (Int × Int × Int)) × (List (Int × Int)) × (List (Int × Int × (List Int) × Int)))) (xH_l2 : List (Int × Int × (List Int) × Int)) (x0_l2 : List (Int × Int)) (x1_l2 : List (Int × Int × Int)) (x7_2_l2 : List Int) (x44_l2 : Int) : Option (Int × (List (Int × Int × Int)) × (List (Int × Int)) × (List (Int × Int × (List Int) × Int))) :=
  if x44_l2 < ((gi a1 0).2.2) then (bnd1 (self_terms_Reader_Read x0_l2 x1_l2 xH_l2) (fun y25 => need (List.length x7_2_l2 + List.length [y25.1] ≤ 137438953472) (rec2 y25.2.2.2 y25.2.2.1 y25.2.1 (x7_2_l2 ++ [y25.1]) (i64 (x44_l2 + 1))))) else (k8 xH_l2 x0_l2 x1_l2 x7_2_l2)
noncomputable def m_terms_Reader_Read_L2 (self_terms_Reader_Read : (List (Int × Int)) → (List (Int × Int × Int)) → (List (Int × Int × (List Int) × Int)) → Option (Int × (List (Int × Int × Int)) × (List (Int × Int)) × (List (Int × Int × (List Int) × Int)))) (a1 : List (Int × Int × Int)) (k8 : (List (Int × Int × (List Int) × Int)) → (List (Int × Int)) → (List (Int × Int × Int)) → (List Int) → Option (Int × (List (Int × Int × Int)) × (List (Int × Int)) × (List (Int × Int × (List Int) × Int)))) : Nat → (List (Int × Int × (List Int) × Int)) → (List (Int × Int)) → (List (Int × Int × Int)) → (List Int) → Int → Option (Int × (List (Int × Int × Int)) × (List (Int × Int)) × (List (Int × Int × (List Int) × Int)))
  | 0, _, _, _, _, _ => none
  | n + 1, xH_l2, x0_l2, x1_l2, x7_2_l2, x44_l2 => m_terms_Reader_Read_B2 self_terms_Reader_Read a1 k8 (m_terms_Reader_Read_L2 self_terms_Reader_Read a1 k8 n) xH_l2 x0_l2 x1_l2 x7_2_l2 x44_l2
noncomputable def m_terms_Reader_Read_F (self_terms_Reader_Read : (List (Int × Int)) → (List (Int × Int × Int)) → (List (Int × Int × (List Int) × Int)) → Option (Int × (List (Int × Int × Int)) × (List (Int × Int)) × (List (Int × Int × (List Int) × Int)))) (a0 : List (Int × Int)) (a1 : List (Int × Int × Int)) (a2 : List (Int × Int × (List Int) × Int)) : Option (Int × (List (Int × Int × Int)) × (List (Int × Int)) × (List (Int × Int × (List Int) × Int))) :=
  need ((0 : Int) ≤ 0 ∧ 0 < (List.length a1 : Int)) (need (1 ≤ (List.length a1 : Int)) (if ((gi a1 0).1) = 1 then (jn (fun (x0_j4 : List (Int × Int)) (xH_j4 : List (Int × Int × (List Int) × Int)) => some ((Option.getD (lookL x0_j4 ((gi a1 0).2.1)) (-1)), List.drop (Int.toNat 1) a1, x0_j4, xH_j4)) (fun k4 => if (Option.getD (lookL a0 ((gi a1 0).2.1)) (-1)) = -1 then (k4 (putL a0 ((gi a1 0).2.1) (List.length a2 : Int)) (a2 ++ [((gi a1 0).1, (gi a1 0).2.1, [], -1)])) else (k4 a0 a2))) else (jn (fun (xH_j8 : List (Int × Int × (List Int) × Int)) (x0_j8 : List (Int × Int)) (x1_j8 : List (Int × Int × Int)) (x7_2_j8 : List Int) => some ((List.length xH_j8 : Int), x1_j8, x0_j8, (xH_j8 ++ [((gi a1 0).1, (gi a1 0).2.1, x7_2_j8, -1)]))) (fun k8 => m_terms_Reader_Read_L2 self_terms_Reader_Read a1 k8 FU a2 a0 (List.drop (Int.toNat 1) a1) [] 0))))
noncomputable def m_terms_Reader_Read_S : Nat → ((List (Int × Int)) → (List (Int × Int × Int)) → (List (Int × Int × (List Int) × Int)) → Option (Int × (List (Int × Int × Int)) × (List (Int × Int)) × (List (Int × Int × (List Int) × Int))))
  | 0 => (fun _ _ _ => none)
  | n + 1 => m_terms_Reader_Read_F (m_terms_Reader_Read_S n)
noncomputable def m_terms_Reader_Read (a0 : List (Int × Int)) (a1 : List (Int × Int × Int)) (a2 : List (Int × Int × (List Int) × Int)) : Option (Int × (List (Int × Int × Int)) × (List (Int × Int)) × (List (Int × Int × (List Int) × Int))) := m_terms_Reader_Read_S FU a0 a1 a2
end Go.Proofs.YtdfdjgolijckfaaDoor
/- The model of occurs. -/
namespace Go.Proofs.YtdfdjgolijckfaaDoor
noncomputable def m_occK (self : Int → Int → List (Int × Bool) → List (Int × Int × (List Int) × Int) → Option (Bool × List (Int × Bool) × List (Int × Int × (List Int) × Int))) (v : Int) : List Int → List (Int × Bool) → List (Int × Int × (List Int) × Int) → Option (Bool × List (Int × Bool) × List (Int × Int × (List Int) × Int))
  | [], s, H => some (false, s, H)
  | k :: ks, s, H => bnd1 (self v k s H) (fun y => if y.1 = true then some y else m_occK self v ks y.2.1 y.2.2)
noncomputable def m_occF (find : Int → List (Int × Int × (List Int) × Int) → Option (Int × List (Int × Int × (List Int) × Int))) (self : Int → Int → List (Int × Bool) → List (Int × Int × (List Int) × Int) → Option (Bool × List (Int × Bool) × List (Int × Int × (List Int) × Int))) (v t : Int) (seen : List (Int × Bool)) (H : List (Int × Int × (List Int) × Int)) : Option (Bool × List (Int × Bool) × List (Int × Int × (List Int) × Int)) :=
  bnd1 (find t H) (fun y => if y.1 = v then some (true, seen, y.2) else need (¬ y.1 = -1) (if Option.getD (lookL seen y.1) false = true then some (false, seen, y.2) else need (List.length (gi y.2 y.1).2.2.1 ≤ 137438953472) (m_occK self v (gi y.2 y.1).2.2.1 (putL seen y.1 true) y.2)))
noncomputable def m_occS (find : Int → List (Int × Int × (List Int) × Int) → Option (Int × List (Int × Int × (List Int) × Int))) : Nat → Int → Int → List (Int × Bool) → List (Int × Int × (List Int) × Int) → Option (Bool × List (Int × Bool) × List (Int × Int × (List Int) × Int))
  | 0, _, _, _, _ => none
  | n + 1, v, t, s, H => m_occF find (m_occS find n) v t s H
noncomputable def m_occ (find : Int → List (Int × Int × (List Int) × Int) → Option (Int × List (Int × Int × (List Int) × Int))) (v t : Int) (s : List (Int × Bool)) (H : List (Int × Int × (List Int) × Int)) : Option (Bool × List (Int × Bool) × List (Int × Int × (List Int) × Int)) := m_occS find FU v t s H
end Go.Proofs.YtdfdjgolijckfaaDoor
/- The model of strconv.FormatInt at base 10. -/
namespace Go.Proofs.YtdfdjgolijckfaaDoor
def m_itoa (a0 a1 : Int) : Option (List UInt8) :=
  need (a1 = 10 ∧ -9223372036854775808 ≤ a0 ∧ a0 ≤ 9223372036854775807) (some (Lib.itoa a0))
end Go.Proofs.YtdfdjgolijckfaaDoor
