/- Words of the models: no program in sight. -/
import GoSem.Core.View
import Derived.IntWalk
namespace Go.Proofs.Ytkplmgdmkfgjhaa

def need (p : Prop) [Decidable p] {ρ : Type} (m : Option ρ) : Option ρ := if p then m else none
theorem need_some {p : Prop} [Decidable p] {ρ : Type} {m : Option ρ} {r : ρ} (h : need p m = some r) : p ∧ m = some r := by
  unfold need at h; split at h
  · exact ⟨‹_›, h⟩
  · cases h
theorem need_pos {p : Prop} [Decidable p] {ρ : Type} {m : Option ρ} (h : p) : need p m = m := if_pos h
def jn {κ ρ : Type} (k : κ) (m : κ → ρ) : ρ := m k
def bnd1 {α ρ : Type} (m : Option α) (k : α → Option ρ) : Option ρ := m.bind k
theorem bnd1_some {α ρ : Type} {m : Option α} {k : α → Option ρ} {r : ρ} (h : bnd1 m k = some r) : ∃ a, m = some a ∧ k a = some r := by
  unfold bnd1 at h; exact Option.bind_eq_some_iff.1 h
/-- A test of which only one answer is certain: where p holds, both roads must come to the same. -/
noncomputable def nilc (p : Prop) {ρ : Type} (a b : Option ρ) : Option ρ := by
  classical exact if p then (if a = b then a else none) else b
theorem ite_t {p : Prop} [Decidable p] {ρ : Type} {a b : Option ρ} {r : ρ} (h : (if p then a else b) = some r) (hp : p) : a = some r := by rwa [if_pos hp] at h
theorem ite_f {p : Prop} [Decidable p] {ρ : Type} {a b : Option ρ} {r : ρ} (h : (if p then a else b) = some r) (hp : ¬ p) : b = some r := by rwa [if_neg hp] at h
def FU : Nat := 18446744073709551616
abbrev i64 (x : Int) : Int := IntKind.i64.wrap x
theorem i64_id {x : Int} (h : -9223372036854775808 ≤ x ∧ x ≤ 9223372036854775807) : i64 x = x := IntWalk.i64_in x (by omega)
def u8i (x : Int) : UInt8 := UInt8.ofNat (IntKind.u8.wrap x).toNat
/-- Element number i. -/
def gi {α : Type} [Inhabited α] (xs : List α) (i : Int) : α := (xs[i.toNat]?).getD default
theorem gi_get {α : Type} [Inhabited α] {xs : List α} {i : Int} (h0 : 0 ≤ i) (h1 : i < xs.length) : xs[i.toNat]? = some (gi xs i) := by
  have : i.toNat < xs.length := by omega
  simp [gi, List.getElem?_eq_getElem this]
theorem gi_nat {α : Type} [Inhabited α] {xs : List α} {i : Nat} (h : i < xs.length) : gi xs (i : Int) = xs[i] := by simp [gi, h]
def bAnd (k : IntKind) (a b : Int) : Int := k.wrap ((BitVec.ofInt k.bits a &&& BitVec.ofInt k.bits b).toNat : Int)
def bOr (k : IntKind) (a b : Int) : Int := k.wrap ((BitVec.ofInt k.bits a ||| BitVec.ofInt k.bits b).toNat : Int)
def bXor (k : IntKind) (a b : Int) : Int := k.wrap ((BitVec.ofInt k.bits a ^^^ BitVec.ofInt k.bits b).toNat : Int)
/-- The order of strings. -/
def ltB : List UInt8 → List UInt8 → Bool
  | _, [] => false
  | [], _ :: _ => true
  | a :: x, b :: y => a < b || (a == b && ltB x y)
abbrev ltS (a b : List UInt8) : Prop := ltB a b = true
theorem wrap_u8n (x : Int) : IntKind.u8.wrap x = x % 256 := by
  unfold IntKind.wrap IntKind.bits IntKind.signed
  simp
theorem u8i_eq (x : Int) : IntKind.u8.wrap x = ((u8i x).toNat : Int) := by
  unfold u8i
  rw [wrap_u8n]
  have : (x % 256).toNat < 256 := by omega
  simp; omega
theorem u8_lt (a : UInt8) : (a.toNat : Int) < 256 := by have := UInt8.toNat_lt a; omega
theorem wrap_u8 {k : IntKind} (hk : (k matches .i8) = false) (a : UInt8) : k.wrap (a.toNat : Int) = (a.toNat : Int) := by
  have := u8_lt a
  cases k <;> simp at hk <;> unfold IntKind.wrap IntKind.bits IntKind.signed <;> simp <;> omega
end Go.Proofs.Ytkplmgdmkfgjhaa
/- Words for maps kept as lists of keys and elements. -/
namespace Go.Proofs.Ytkplmgdmkfgjhaa
section
variable {κ β : Type} [DecidableEq κ]
/-- What lies at a key. -/
def lookL : List (κ × β) → κ → Option β
  | [], _ => none
  | x :: l, k => if x.1 = k then some x.2 else lookL l k
/-- An element laid at a key. -/
def putL : List (κ × β) → κ → β → List (κ × β)
  | [], k, v => [(k, v)]
  | x :: l, k, v => if x.1 = k then (k, v) :: l else x :: putL l k v
end
section
variable {ξ σ ρ : Type}
/-- The rounds of a range, in an order. -/
def foldB (B : ξ → σ → Option σ) : List ξ → σ → Option σ
  | [], s => some s
  | x :: l, s => (B x s).bind (foldB B l)
open Classical in
/-- A range in whatever order, and what follows: all orders come to the same. -/
noncomputable def rngC (l : List ξ) (B : ξ → σ → Option σ) (s0 : σ) (K : σ → Option ρ) : Option ρ :=
  if h : ∃ r, ∀ l' : List ξ, l'.Perm l → (foldB B l' s0).bind K = some r then some h.choose else none
theorem rngC_some {l : List ξ} {B : ξ → σ → Option σ} {s0 : σ} {K : σ → Option ρ} {r : ρ} (h : rngC l B s0 K = some r) : ∀ l' : List ξ, l'.Perm l → (foldB B l' s0).bind K = some r := by
  unfold rngC at h
  split at h
  · rename_i h0; rw [← Option.some.inj h]; exact h0.choose_spec
  · cases h
theorem rngC_mk {l : List ξ} {B : ξ → σ → Option σ} {s0 : σ} {K : σ → Option ρ} {r : ρ} (h : ∀ l' : List ξ, l'.Perm l → (foldB B l' s0).bind K = some r) : rngC l B s0 K = some r := by
  have h0 : ∃ r, ∀ l' : List ξ, l'.Perm l → (foldB B l' s0).bind K = some r := ⟨r, h⟩
  unfold rngC
  rw [dif_pos h0]
  have h1 := h0.choose_spec l (List.Perm.refl l)
  rw [h l (List.Perm.refl l)] at h1
  exact h1.symm
theorem foldB_app (B : ξ → σ → Option σ) : ∀ (a b : List ξ) (s : σ), foldB B (a ++ b) s = (foldB B a s).bind (foldB B b)
  | [], _, _ => rfl
  | x :: a, b, s => by
    simp only [List.cons_append, foldB]
    cases B x s with
    | none => rfl
    | some t => exact foldB_app B a b t
end
end Go.Proofs.Ytkplmgdmkfgjhaa
/- The model of the disk. -/
namespace Go.Proofs.Ytkplmgdmkfgjhaa
/-- Without the first entry at a key. -/
def delL {κ β : Type} [DecidableEq κ] : List (κ × β) → κ → List (κ × β)
  | [], _ => []
  | x :: l, k => if x.1 = k then l else x :: delL l k
structure Dk where
  cap : Int
  files : List (List UInt8 × Int)
  names : List (List UInt8 × Int)
  dur : List (List UInt8 × Int)
  pend : List (List UInt8 × List UInt8 × Int)
  wr : Int
  fl : Int
  dn : Bool
deriving Inhabited
/-- A write is counted. -/
noncomputable def dkWr (D : Dk) : Dk := { D with wr := i64 (D.wr + 1), fl := if 0 < D.fl then i64 (D.fl - 1) else D.fl, dn := if 0 < D.fl then decide (i64 (D.fl - 1) = 0) else D.dn }
/-- An operation on a directory. -/
def dkPf (o : List UInt8 × List UInt8 × Int) (l : List (List UInt8 × Int)) : List (List UInt8 × Int) :=
  if o.2.2 = -1 then delL (if o.1 = [] then l else delL l o.1) o.2.1 else putL (if o.1 = [] then l else delL l o.1) o.2.1 o.2.2
noncomputable def m_dkUsedR (F : List (List UInt8 × Int)) (y : List UInt8 × Int) (n : Int) : Option Int := need (0 ≤ y.2 ∧ y.2 < (F.length : Int)) (some (i64 (n + ((gi F y.2).1.length : Int))))
noncomputable def m_dkUsed (D : Dk) : Option Int := rngC D.names (m_dkUsedR D.files) 0 (fun n => some n)
noncomputable def m_disk_New (a0 : Int) : Option (Dk × Int) := need (0 ≤ a0 ∧ a0 ≤ 4194304) (some (⟨a0, [], [], [], [], 0, 0, false⟩, 0))
/-- The bytes and the error of a write that may fail. -/
noncomputable def dkBy (D : Dk) (b : List UInt8) : List UInt8 × Int := if (dkWr D).dn = true then (b.take (b.length / 2), 25) else (b, 0)
noncomputable def m_disk_Append (D : Dk) (name b : List UInt8) : Option (Int × Dk) :=
  if D.dn = true then some (25, D) else if ¬ (1 ≤ name.length ∧ name.length ≤ 32) then some (1, D)
  else if (lookL D.names name).getD (-1) = -1 ∧ 64 ≤ D.names.length then some (10, D)
  else bnd1 (m_dkUsed D) (fun u => if i64 (D.cap - u) < (b.length : Int) then some (10, D) else
    need (b.length ≤ 137438953472) (if (lookL D.names name).getD (-1) = -1 then need (D.pend.length < 137438953472)
      (some ((dkBy D b).2, { dkWr D with files := D.files ++ [((dkBy D b).1, 0)], names := putL D.names name (D.files.length : Int), pend := D.pend ++ [([], name, (D.files.length : Int))] }))
    else need (0 ≤ (lookL D.names name).getD (-1) ∧ (lookL D.names name).getD (-1) < (D.files.length : Int)) (need ((gi D.files ((lookL D.names name).getD (-1))).1.length + (dkBy D b).1.length ≤ 137438953472)
      (some ((dkBy D b).2, { dkWr D with files := D.files.set ((lookL D.names name).getD (-1)).toNat ((gi D.files ((lookL D.names name).getD (-1))).1 ++ (dkBy D b).1, (gi D.files ((lookL D.names name).getD (-1))).2) })))))
noncomputable def dkChk (D : Dk) (name : List UInt8) : Int := if D.dn = true then 25 else if ¬ (1 ≤ name.length ∧ name.length ≤ 32) then 1 else if (lookL D.names name).getD (-1) = -1 then 21 else 0
noncomputable def m_disk_Sync (D : Dk) (name : List UInt8) : Option (Int × Dk) :=
  if ¬ dkChk D name = 0 then some (dkChk D name, D) else if (dkWr D).dn = true then some (25, dkWr D) else
    need (0 ≤ (lookL D.names name).getD (-1) ∧ (lookL D.names name).getD (-1) < (D.files.length : Int))
      (some (0, { dkWr D with files := D.files.set ((lookL D.names name).getD (-1)).toNat ((gi D.files ((lookL D.names name).getD (-1))).1, ((gi D.files ((lookL D.names name).getD (-1))).1.length : Int)), dur := D.names, pend := [] }))
noncomputable def m_disk_Read (D : Dk) (name : List UInt8) : Option (List UInt8 × Int × Dk) :=
  if ¬ dkChk D name = 0 then some ([], dkChk D name, D) else
    need (0 ≤ (lookL D.names name).getD (-1) ∧ (lookL D.names name).getD (-1) < (D.files.length : Int)) (need ((gi D.files ((lookL D.names name).getD (-1))).1.length ≤ 137438953472) (some ((gi D.files ((lookL D.names name).getD (-1))).1, 0, D)))
noncomputable def m_disk_Writes (D : Dk) : Option (Int × Dk) := some (D.wr, D)
end Go.Proofs.Ytkplmgdmkfgjhaa
/- Patterns as trees, in plain Lean. -/
namespace Go.Proofs.Ytkplmgdmkfgjhaa
inductive Nd where
  | nil
  | mk (op n : Int) (kids : List Nd)
instance : Inhabited Nd := ⟨.nil⟩
end Go.Proofs.Ytkplmgdmkfgjhaa
/- The model of the disk, more: Fail, Crash. -/
namespace Go.Proofs.Ytkplmgdmkfgjhaa
noncomputable def m_disk_Fail (D : Dk) (n : Int) : Option Dk := some (if D.dn = true then D else { D with fl := max n 0 })
/-- The names of a directory, sorted. -/
def nms (l : List (List UInt8 × Int)) : List (List UInt8) := (l.map (·.1)).mergeSort fun x y => decide (x ≤ y)
/-- What the next element of keep keeps of n. -/
def dkK : List Int → Int
  | [] => 0
  | x :: _ => max x 0
noncomputable def dkNx (k : List Int) (n : Int) : Option Int := need (¬ i64 (n + 1) = 0) (some (Int.tmod (dkK k) (i64 (n + 1))))
/-- The files after a crash. -/
noncomputable def crL (nm : List (List UInt8 × Int)) : List (List UInt8) → List (List UInt8 × Int) → List Int → Option (List (List UInt8 × Int))
  | [], F, _ => some F
  | s :: ns, F, k => need (0 ≤ (lookL nm s).getD (-1) ∧ (lookL nm s).getD (-1) < (F.length : Int))
    (if 0 < i64 (((gi F ((lookL nm s).getD (-1))).1.length : Int) - (gi F ((lookL nm s).getD (-1))).2) then
      bnd1 (dkNx k (i64 (((gi F ((lookL nm s).getD (-1))).1.length : Int) - (gi F ((lookL nm s).getD (-1))).2))) (fun x =>
        need (0 ≤ i64 ((gi F ((lookL nm s).getD (-1))).2 + x) ∧ i64 ((gi F ((lookL nm s).getD (-1))).2 + x) ≤ ((gi F ((lookL nm s).getD (-1))).1.length : Int))
          (crL nm ns (F.set ((lookL nm s).getD (-1)).toNat ((gi F ((lookL nm s).getD (-1))).1.take (i64 ((gi F ((lookL nm s).getD (-1))).2 + x)).toNat, i64 ((gi F ((lookL nm s).getD (-1))).2 + x))) k.tail))
    else crL nm ns F k)
/-- The directory after the first operations. -/
def crN (D : Dk) (c : Nat) : List (List UInt8 × Int) := (D.pend.take c).foldl (fun l o => dkPf o l) D.dur
noncomputable def m_disk_Crash (D : Dk) (k : List Int) : Option Dk :=
  bnd1 (dkNx k (D.pend.length : Int)) (fun c => need (0 ≤ c ∧ c ≤ (D.pend.length : Int)) (need (D.pend.length < 137438953472 ∧ (crN D c.toNat).length < 137438953472)
    (bnd1 (crL (crN D c.toNat) (nms (crN D c.toNat)) D.files k.tail) (fun F => some { D with files := F, names := crN D c.toNat, dur := crN D c.toNat, pend := [], wr := 0, fl := 0, dn := false }))))
end Go.Proofs.Ytkplmgdmkfgjhaa
/- The models of the sorts. -/
namespace Go.Proofs.Ytkplmgdmkfgjhaa
section
variable {α : Type}
end
end Go.Proofs.Ytkplmgdmkfgjhaa
/- The model of the sort of pairs. -/
namespace Go.Proofs.Ytkplmgdmkfgjhaa
end Go.Proofs.Ytkplmgdmkfgjhaa
