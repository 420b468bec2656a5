/- Sets of values: elements, merging, bounded results. -/
import Derived.Test.YtdppkpiagdaigaaGreatDoorKM1
import Derived.Test.YtdppkpiagdaigaaGreatDoorKM0
namespace Go.Proofs.YtdppkpiagdaigaaGreatDoor
attribute [local irreducible] FU

theorem cmpC_val {a b : List UInt8} (ha : Vd a) (hb : Vd b) : cmpC a b = cmpW a b := by unfold cmpC; rw [if_pos ⟨vldB_iff.2 ha, vldB_iff.2 hb⟩]
theorem flat_mem {ps : List (List UInt8)} {p : List UInt8} (h : p ∈ ps) : p.length ≤ ps.flatten.length := by
  obtain ⟨a, b, rfl⟩ := List.append_of_mem h
  simp; omega
theorem flatV_len {ps : List (List UInt8)} (h : ∀ p ∈ ps, p ≠ []) : ps.length ≤ ps.flatten.length := by
  induction ps with
  | nil => simp
  | cons p ps ih =>
    have := ih (fun q hq => h q (List.mem_cons_of_mem _ hq))
    have := List.length_pos_iff.2 (h p (by simp))
    simp only [List.flatten_cons, List.length_append, List.length_cons]; omega
noncomputable def isSet (v : List UInt8) : Bool := decide (kindW v = 5)
/-! ### Results -/
theorem sortW_id {l : List (List UInt8)} (h : SLC l) : sortW l = l := slc_ext (sortW_spec l).1 h (sortW_spec l).2.1
/-! ### Merging -/
def MS (F : Bool → Bool → Bool) (A B r : List (List UInt8)) : Prop := SLC r ∧ ∀ y, y ∈ r ↔ F (decide (y ∈ A)) (decide (y ∈ B)) = true ∧ (y ∈ A ∨ y ∈ B)
theorem MS.push {F : Bool → Bool → Bool} {x : List UInt8} {A B r : List (List UInt8)} (fa fb : Bool) (hor : (fa || fb) = true) (hxA : ∀ y ∈ A, cmpC x y < 0) (hxB : ∀ y ∈ B, cmpC x y < 0) (h : MS F A B r) :
    MS F ((if fa then [x] else []) ++ A) ((if fb then [x] else []) ++ B) ((if F fa fb then [x] else []) ++ r) := by
  obtain ⟨hr, hm⟩ := h
  have hA : x ∉ A := fun hh => by have := hxA x hh; rw [cmpC_self] at this; omega
  have hB : x ∉ B := fun hh => by have := hxB x hh; rw [cmpC_self] at this; omega
  refine ⟨?_, fun y => ?_⟩
  · split
    · refine List.pairwise_cons.2 ⟨fun y hy => ?_, hr⟩
      rcases ((hm y).1 hy).2 with h | h
      · exact hxA y h
      · exact hxB y h
    · exact hr
  · by_cases hy : y = x
    · subst hy
      have hnr : y ∉ r := fun hh => by rcases ((hm y).1 hh).2 with h | h; exact hA h; exact hB h
      cases fa <;> cases fb <;> simp_all <;> split <;> simp_all
    · have e1 : (y ∈ (if fa = true then [x] else []) ++ A) ↔ y ∈ A := by cases fa <;> simp [hy]
      have e2 : (y ∈ (if fb = true then [x] else []) ++ B) ↔ y ∈ B := by cases fb <;> simp [hy]
      have e3 : (y ∈ (if F fa fb = true then [x] else []) ++ r) ↔ y ∈ r := by cases F fa fb <;> simp [hy]
      rw [e3, hm]
      simp only [e1, e2]
theorem nodup_len {α : Type} : ∀ {r l : List α}, r.Nodup → (∀ x ∈ r, x ∈ l) → r.length ≤ l.length
  | [], _, _, _ => by simp
  | x :: r, l, hn, hs => by
    obtain ⟨s, t, rfl⟩ := List.append_of_mem (hs x (by simp))
    obtain ⟨h1, h2⟩ := List.nodup_cons.1 hn
    have := nodup_len (r := r) (l := s ++ t) h2 (fun y hy => by
      have h := hs y (List.mem_cons_of_mem _ hy)
      have hne : y ≠ x := fun e => h1 (e ▸ hy)
      simpa [hne] using h)
    simp only [List.length_append, List.length_cons] at this ⊢
    omega
theorem slc_nodup {r : List (List UInt8)} (h : SLC r) : r.Nodup := h.imp (fun {a b} hab he => by subst he; rw [cmpC_self] at hab; omega)
theorem MS.len {F : Bool → Bool → Bool} {A B r : List (List UInt8)} (h : MS F A B r) : r.length ≤ A.length + B.length := by
  have := nodup_len (l := A ++ B) (slc_nodup h.1) (fun x hx => by rcases ((h.2 x).1 hx).2 with h | h <;> simp [h])
  simpa using this
end Go.Proofs.YtdppkpiagdaigaaGreatDoor
/- Operations on sets: program and reference agree. -/
namespace Go.Proofs.YtdppkpiagdaigaaGreatDoor
attribute [local irreducible] FU

theorem gi2_0 {α : Type} [Inhabited α] (x y : α) : gi [x, y] 0 = x := rfl
end Go.Proofs.YtdppkpiagdaigaaGreatDoor
/- Operations on sets of sets and maps: program and reference agree. -/
namespace Go.Proofs.YtdppkpiagdaigaaGreatDoor
attribute [local irreducible] FU

end Go.Proofs.YtdppkpiagdaigaaGreatDoor
/- Subsets and keys: program and reference agree. -/
namespace Go.Proofs.YtdppkpiagdaigaaGreatDoor
attribute [local irreducible] FU

theorem u64_nat {n : Nat} (h : n ≤ 4611686018427387904) : IntKind.u64.wrap (n : Int) = (n : Int) := by
  unfold IntKind.wrap IntKind.bits IntKind.signed
  simp; omega
/-! ### Keys -/
end Go.Proofs.YtdppkpiagdaigaaGreatDoor
/- Integers as values; sets of them; the check of awake. -/
namespace Go.Proofs.YtdppkpiagdaigaaGreatDoor
attribute [local irreducible] FU

/-- The last k bytes of w. -/
def byD (w : Nat) : Nat → List UInt8
  | 0 => []
  | k + 1 => u8i ((w / 2 ^ (8 * k) : Nat) : Int) :: byD w k
theorem byD_len (w : Nat) : ∀ k, (byD w k).length = k
  | 0 => rfl
  | k + 1 => by simp [byD, byD_len w k]
theorem beNat_cons (b : UInt8) (l : List UInt8) : beNat (b :: l) = b.toNat * 256 ^ l.length + beNat l := by
  have key : ∀ (l : List UInt8) (a : Nat), l.foldl (fun n b => n * 256 + b.toNat) a = a * 256 ^ l.length + beNat l := by
    intro l
    induction l with
    | nil => intro a; simp [beNat]
    | cons x l ih =>
      intro a
      have e : beNat (x :: l) = x.toNat * 256 ^ l.length + beNat l := by
        have := ih (0 * 256 + x.toNat)
        simpa [beNat] using this
      rw [List.foldl_cons, ih, e, List.length_cons, Nat.pow_succ, Nat.add_mul, Nat.mul_assoc, Nat.mul_comm 256]
      omega
  have := key l b.toNat
  simpa [beNat] using this
theorem pow8 (k : Nat) : 256 ^ k = 2 ^ (8 * k) := by rw [Nat.pow_mul]
theorem beNat_byD (w : Nat) : ∀ k, beNat (byD w k) = w % 2 ^ (8 * k)
  | 0 => by simp [byD, beNat, Nat.mod_one]
  | k + 1 => by
    rw [byD, beNat_cons, byD_len, u8i_nat, beNat_byD w k, pow8, show 8 * (k + 1) = 8 * k + 8 by omega, Nat.pow_add, Nat.mod_mul, Nat.mul_comm, Nat.add_comm, Nat.mul_comm]
def wOf (n : Int) : Nat := (n % 18446744073709551616).toNat
theorem u64_mod (x : Int) : IntKind.u64.wrap x = (wOf x : Int) := by rw [wrap_u64]; unfold wOf; omega
theorem fdiv_pow (w k : Nat) (hk : 8 * k ≤ 64) : Int.fdiv (w : Int) (2 ^ min (Int.toNat ((8 * k : Nat) : Int)) IntKind.u64.bits) = ((w / 2 ^ (8 * k) : Nat) : Int) := by
  rw [Int.toNat_natCast, show IntKind.u64.bits = 64 from rfl, Nat.min_eq_left hk]
  have : (2 : Int) ^ (8 * k) = ((2 ^ (8 * k) : Nat) : Int) := by simp
  rw [this, Int.fdiv_eq_ediv_of_nonneg _ (Int.natCast_nonneg _)]
  rfl
noncomputable def intW (n : Int) : List UInt8 := 1 :: byD (wOf n) 8
theorem vAppend64 (w : Nat) (K : List UInt8 → Option (List UInt8)) : ∀ (k n : Nat) (out : List UInt8), k ≤ 8 → k < n → out.length + k ≤ 100 → m_value_append64_L2 w K n out (8 * (k : Int) - 8) = K (out ++ byD w k) := by
  intro k
  induction k with
  | zero =>
    intro n out hk hn ho
    obtain ⟨n, rfl⟩ : ∃ q, n = q + 1 := ⟨n - 1, by omega⟩
    rw [m_value_append64_L2, m_value_append64_B2, if_neg (by omega)]
    simp [byD]
  | succ k ih =>
    intro n out hk hn ho
    obtain ⟨n, rfl⟩ : ∃ q, n = q + 1 := ⟨n - 1, by omega⟩
    have e : 8 * ((k + 1 : Nat) : Int) - 8 = ((8 * k : Nat) : Int) := by omega
    have e2 : i64 (((8 * k : Nat) : Int) - 8) = 8 * (k : Int) - 8 := by rw [i64_id (by omega)]; omega
    rw [e, m_value_append64_L2, m_value_append64_B2, if_pos (by omega), need_pos (by omega), fdiv_pow w k (by omega), need_pos (by simp; omega), e2, ih n _ (by omega) (by omega) (by simp; omega)]
    simp [byD]
theorem vInt (n : Int) : m_value_Int n = some (intW n) := by
  have hFU := FU_ge
  unfold m_value_Int m_value_append64
  have h := vAppend64 (wOf n) (fun x => some x) 8 FU [1] (by omega) (by omega) (by simp)
  rw [show 8 * ((8 : Nat) : Int) - 8 = 56 from rfl] at h
  rw [u64_mod, jn_eq]
  rw [h, bnd1_mk]; rfl
theorem set_byD (w k : Nat) (hk : k < 8) : List.set (List.replicate (8 - k) (0 : UInt8) ++ byD w k) (7 - k) (u8i ((w / 2 ^ (8 * k) : Nat) : Int)) = List.replicate (8 - (k + 1)) (0 : UInt8) ++ byD w (k + 1) := by
  rw [show 8 - k = (8 - (k + 1)) + 1 by omega, List.replicate_succ', List.append_assoc, List.set_append_right _ _ (by simp)]
  have : 7 - k - (List.replicate (8 - (k + 1)) (0 : UInt8)).length = 0 := by simp
  rw [this]; rfl
theorem rEight_loop (n0 : Int) (K : List UInt8 → Option (List UInt8)) : ∀ (m k n : Nat), k + m = 8 → m < n → m_ref9_eight_L2 n0 K n (List.replicate (8 - k) (0 : UInt8) ++ byD (wOf n0) k) k = K (byD (wOf n0) 8) := by
  intro m
  induction m with
  | zero =>
    intro k n hk hn
    obtain ⟨n, rfl⟩ : ∃ q, n = q + 1 := ⟨n - 1, by omega⟩
    obtain rfl : k = 8 := by omega
    rw [m_ref9_eight_L2, m_ref9_eight_B2, if_neg (by omega)]
    simp
  | succ m ih =>
    intro k n hk hn
    obtain ⟨n, rfl⟩ : ∃ q, n = q + 1 := ⟨n - 1, by omega⟩
    have e1 : i64 (8 * (k : Int)) = ((8 * k : Nat) : Int) := by rw [i64_id (by omega)]; omega
    have e2 : i64 (7 - (k : Int)) = ((7 - k : Nat) : Int) := by rw [i64_id (by omega)]; omega
    rw [m_ref9_eight_L2, m_ref9_eight_B2, if_pos (by omega), e1, u64_nat (by omega), need_pos (by omega), e2, need_pos (by simp [byD_len]; omega), Int.toNat_natCast (7 - k), u64_mod, fdiv_pow _ k (by omega), i64_succ (by omega)]
    rw [set_byD (wOf n0) k (by omega)]
    exact ih (k + 1) n (by omega) (by omega)
theorem rInt (n : Int) : m_ref9_Int n = some (intW n) := by
  have hFU := FU_ge
  unfold m_ref9_Int m_ref9_eight
  have h := rEight_loop n (fun x => some x) 8 0 FU (by omega) (by omega)
  rw [Int.natCast_zero] at h
  rw [need_pos (by omega), jn_eq]
  rw [show List.replicate (Int.toNat 8) (0 : UInt8) = List.replicate (8 - 0) (0 : UInt8) ++ byD (wOf n) 0 from rfl, h, bnd1_mk, need_pos (by simp [byD_len])]
  rfl
theorem intW_IsV (n : Int) (k : Nat) : IsV (k + 1) (intW n) := .int k _ (byD_len _ 8)
theorem intW_len (n : Int) : (intW n).length = 9 := by simp [intW, byD_len]
theorem numV_intW {n : Int} (h : -9223372036854775808 ≤ n ∧ n ≤ 9223372036854775807) : numV (intW n) = n := by
  unfold numV intW
  rw [List.drop_succ_cons, List.drop_zero, beNat_byD]
  have e : wOf n % 2 ^ (8 * 8) = wOf n := Nat.mod_eq_of_lt (by unfold wOf; omega)
  rw [e]
  unfold wOf i64
  rw [show (((n % 18446744073709551616).toNat : Nat) : Int) = n % 18446744073709551616 by omega]
  unfold IntKind.wrap IntKind.bits IntKind.signed
  simp; split <;> omega
theorem intW_inj {a b : Int} (ha : -9223372036854775808 ≤ a ∧ a ≤ 9223372036854775807) (hb : -9223372036854775808 ≤ b ∧ b ≤ 9223372036854775807) (h : intW a = intW b) : a = b := by
  rw [← numV_intW ha, ← numV_intW hb, h]

/-! ### Sets that are valid -/
theorem flat_le {l : List (List UInt8)} {c : Nat} (h : ∀ x ∈ l, x.length ≤ c) : l.flatten.length ≤ c * l.length := by
  induction l with
  | nil => simp
  | cons x l ih =>
    have h1 := h x (by simp)
    have h2 := ih (fun y hy => h y (by simp [hy]))
    simp only [List.flatten_cons, List.length_append, List.length_cons, Nat.mul_add, Nat.mul_one]
    omega
theorem SLC_ascB : ∀ {ps : List (List UInt8)}, (∀ p ∈ ps, Vd p) → SLC ps → ascB ps = true
  | [], _, _ => rfl
  | [_], _, _ => rfl
  | x :: y :: t, hv, h => by
    obtain ⟨h1, h2⟩ := List.pairwise_cons.1 h
    have := h1 y (by simp)
    rw [cmpC_val (hv x (by simp)) (hv y (by simp))] at this
    rw [ascB, SLC_ascB (fun p hp => hv p (by simp [hp])) h2, decide_eq_true this]; rfl
/-- A set of valid values that is neither too deep nor too long. -/
theorem set_ok {l : List (List UInt8)} {k : Nat} (hk : k ≤ 31) (hv : ∀ x ∈ l, IsV k x) (hl : (sortW l).length ≤ 65535) (hs : 3 + (sortW l).flatten.length ≤ 131072) :
    setW l = raw 5 (sortW l) ∧ IsV (k + 1) (setW l) ∧ prtW (setW l) = sortW l ∧ isSet (setW l) = true ∧ setW l ≠ [] ∧ (setW l).length ≤ 131072 := by
  have hm := (sortW_spec l).2.1
  have hV : ∀ x ∈ sortW l, Vd x := fun x hx => ⟨(hv x ((hm x).1 hx)).le (by omega), by have := flat_mem hx; omega⟩
  have hI : IsV (k + 1) (raw 5 (sortW l)) := .comp k 5 _ _ (sortW l) (by decide) (raw_count hl) (fun x hx => hv x ((hm x).1 hx)) (by
    have := SLC_ascB hV (sortW_spec l).1
    simpa [formedB] using this)
  have hVr : Vd (raw 5 (sortW l)) := ⟨hI.le (by omega), by rw [raw_len]; omega⟩
  have he : setW l = raw 5 (sortW l) := cmpd_yes ⟨hl, hV, hVr⟩
  have hvb := vldB_iff.2 hVr
  rw [he]
  refine ⟨rfl, hI, ?_, ?_, by simp [raw], hVr.2⟩
  · unfold prtW; rw [if_pos hvb]; exact prt_raw (by decide) hl hV
  · unfold isSet kindW; rw [if_pos hvb]; rfl
/-! ### The subsets are different -/
/-! ### Ranges -/
end Go.Proofs.YtdppkpiagdaigaaGreatDoor
/- The generator of values always returns. -/
namespace Go.Proofs.YtdppkpiagdaigaaGreatDoor
attribute [local irreducible] FU

/-- The state of the choices. -/
def GS (l : List Int) (i : Int) : Prop := 0 ≤ i ∧ i ≤ l.length ∧ l.length ≤ 9223372036854775807
theorem gNext {l : List Int} {i : Int} (h : GS l i) {n : Int} (h0 : 0 < n) (h1 : n ≤ 1000000) : ∃ y i', m_gen_Choices_Next (l, i) n = some (y, (l, i')) ∧ GS l i' ∧ 0 ≤ y ∧ y < n := by
  obtain ⟨g1, g2, g3⟩ := h
  unfold m_gen_Choices_Next
  simp only []
  by_cases hc : (List.length l : Int) ≤ i
  · rw [if_pos hc]; exact ⟨0, i, rfl, ⟨g1, g2, g3⟩, by omega, h0⟩
  · have e : i64 (i64 (i + 1) - 1) = i := by rw [i64_id (x := i + 1) (by omega), i64_id (by omega)]; omega
    have en : IntKind.u64.wrap n = n := by rw [wrap_u64]; omega
    unfold m_help_Mod
    rw [if_neg hc, e, need_pos (by omega), en, need_pos (by omega), bnd1_mk, i64_id (x := i + 1) (by omega)]
    have ha := wrap_u64 (gi l i)
    have h3 : 0 ≤ Int.tmod (IntKind.u64.wrap (gi l i)) n := Int.tmod_nonneg _ (by omega)
    have h4 : Int.tmod (IntKind.u64.wrap (gi l i)) n < n := Int.tmod_lt_of_pos _ h0
    exact ⟨_, _, rfl, ⟨by omega, by omega, g3⟩, by rw [i64_id (by omega)]; exact h3, by rw [i64_id (by omega)]; exact h4⟩
theorem gNumber {l : List Int} {i : Int} (h : GS l i) : ∃ v i', m_gen_Choices_Number (l, i) = some (v, (l, i')) ∧ GS l i' := by
  unfold m_gen_Choices_Number
  obtain ⟨y, i1, e1, g1, y0, y1⟩ := gNext h (n := 9) (by omega) (by omega)
  obtain ⟨a, ia, ea, ga, _⟩ := gNext g1 (n := 2) (by omega) (by omega)
  obtain ⟨b, ib, eb, gb, _⟩ := gNext g1 (n := 7) (by omega) (by omega)
  simp only [e1, bnd1_mk, ea, eb]
  split
  · exact ⟨_, _, rfl, g1⟩
  · split
    · exact ⟨_, _, rfl, ga⟩
    · split
      · exact ⟨_, _, rfl, ga⟩
      · exact ⟨_, _, rfl, gb⟩
/-! ### What is made always comes back -/
end Go.Proofs.YtdppkpiagdaigaaGreatDoor
/- The generator makes valid values. -/
namespace Go.Proofs.YtdppkpiagdaigaaGreatDoor
attribute [local irreducible] FU

/-- A compound of valid parts. -/
theorem comp_ok {c : UInt8} (hc : 3 ≤ c.toNat ∧ c.toNat ≤ 9) {l : List (List UInt8)} {k : Nat} (hk : k ≤ 31) (hv : ∀ x ∈ l, IsV k x) (hn : l.length ≤ 65535) (hl : l.flatten.length ≤ 131069) (hf : formedB c l = true) :
    cmpd c l = raw c l ∧ IsV (k + 1) (raw c l) ∧ prtW (raw c l) = l ∧ kindW (raw c l) = (c.toNat : Int) ∧ Vd (raw c l) := by
  have hV : ∀ x ∈ l, Vd x := fun x hx => ⟨(hv x hx).le (by omega), by have := flat_mem hx; omega⟩
  have hI : IsV (k + 1) (raw c l) := .comp k c _ _ l hc (raw_count hn) hv hf
  have hVr : Vd (raw c l) := ⟨hI.le (by omega), by rw [raw_len]; omega⟩
  refine ⟨cmpd_yes ⟨hn, hV, hVr⟩, hI, ?_, ?_, hVr⟩
  · unfold prtW; rw [if_pos (vldB_iff.2 hVr)]; exact prt_raw hc hn hV
  · unfold kindW; rw [if_pos (vldB_iff.2 hVr)]; rfl
theorem gi2_00 {α : Type} [Inhabited α] (x : α) (l : List α) : gi (x :: l) 0 = x := rfl
def nameW (k : Int) : List UInt8 := [10, u8i (k / 256), u8i k]
theorem nameW_IsV (k : Int) (j : Nat) : IsV (j + 1) (nameW k) := .name j _ _
theorem rNameW {k : Int} (h0 : 0 ≤ k) (h1 : k ≤ 65535) : m_ref9_Name k = some (nameW k) := by
  unfold m_ref9_Name
  simp only [jn_eq]
  unfold m_ref9_two
  rw [if_neg (by omega), if_neg (by simp; omega), bnd1_mk, need_pos (by simp), show (2 : Int) ^ min (Int.toNat 8) IntKind.i64.bits = 256 from rfl, Int.fdiv_eq_ediv_of_nonneg _ (by omega)]; rfl
theorem rBoolW (b : Bool) : ∃ v, m_ref9_Bool b = some v ∧ ∀ k, IsV (k + 1) v ∧ v.length = 2 := by
  unfold m_ref9_Bool
  cases b
  · exact ⟨_, rfl, fun k => ⟨.bool k 0 (by decide), rfl⟩⟩
  · exact ⟨_, rfl, fun k => ⟨.bool k 1 (by decide), rfl⟩⟩
theorem rDotW {k : Int} (h0 : 0 ≤ k) (h1 : k ≤ 65535) (l : List (List UInt8)) (hl : l.length ≤ 1000) : m_ref9_Dot k l = some (cmpd 7 (nameW k :: l)) := by
  unfold m_ref9_Dot
  have := rMake 7 (by decide) ([nameW k] ++ l) (by simp; omega)
  rw [show ((7 : UInt8).toNat : Int) = 7 from rfl] at this
  rw [rNameW h0 h1, bnd1_mk, need_pos (by simp; omega), this, bnd1_mk]; rfl
theorem rNumberedW (c : UInt8) (hc : 3 ≤ c.toNat ∧ c.toNat ≤ 9) (k : Int) (l : List (List UInt8)) (hl : l.length ≤ 1000) : m_ref9_Numbered (c.toNat : Int) k l = some (cmpd c (intW k :: l)) := by
  unfold m_ref9_Numbered
  rw [rInt, bnd1_mk, need_pos (by simp; omega), rMake c hc _ (by simp; omega), bnd1_mk]; rfl

/-! ### Maps -/
/-- The parts of a map: by ascending key. -/
noncomputable def mapW (a b : List (List UInt8)) : List (List UInt8) := (sortW a).flatMap (fun k => (a.zip b).flatMap (fun p => if p.1 = k then [k, p.2] else []))
def zipP : List (List UInt8) → List (List UInt8) → List (List UInt8)
  | x :: xs, y :: ys => x :: y :: zipP xs ys
  | _, _ => []
theorem zip_none {k : List UInt8} : ∀ (a b : List (List UInt8)), k ∉ a → (a.zip b).flatMap (fun p => if p.1 = k then [k, p.2] else []) = []
  | [], _, _ => rfl
  | _ :: _, [], _ => rfl
  | x :: xs, y :: ys, h => by
    simp only [List.mem_cons, not_or] at h
    rw [List.zip_cons_cons, List.flatMap_cons, zip_none xs ys h.2]
    simp only []
    rw [if_neg (fun e => h.1 e.symm)]; rfl
theorem flatMap_congr' {α β : Type} {f g : α → List β} : ∀ {l : List α}, (∀ x ∈ l, f x = g x) → l.flatMap f = l.flatMap g
  | [], _ => rfl
  | x :: xs, h => by rw [List.flatMap_cons, List.flatMap_cons, h x (by simp), flatMap_congr' (fun y hy => h y (by simp [hy]))]
theorem zip_all : ∀ (a b : List (List UInt8)), a.Nodup → a.flatMap (fun k => (a.zip b).flatMap (fun p => if p.1 = k then [k, p.2] else [])) = zipP a b
  | [], _, _ => rfl
  | x :: xs, [], _ => by simp [zipP]
  | x :: xs, y :: ys, h => by
    obtain ⟨h1, h2⟩ := List.nodup_cons.1 h
    rw [zipP, List.flatMap_cons, ← zip_all xs ys h2, List.zip_cons_cons, List.flatMap_cons, zip_none xs ys h1]
    simp only [if_true, List.append_nil, List.cons_append, List.nil_append]
    congr 2
    refine flatMap_congr' (fun k hk => ?_)
    rw [List.flatMap_cons, if_neg (fun e => h1 (by rw [show x = k from e]; exact hk)), List.nil_append]
theorem mapW_sorted {a b : List (List UInt8)} (h : SLC a) : mapW a b = zipP a b := by
  unfold mapW; rw [sortW_id h]; exact zip_all a b (slc_nodup h)
theorem zipP_len : ∀ (a b : List (List UInt8)), a.length = b.length → (zipP a b).length = 2 * a.length
  | [], _, _ => by simp [zipP]
  | x :: xs, [], h => by simp at h
  | x :: xs, y :: ys, h => by simp only [zipP, List.length_cons]; rw [zipP_len xs ys (by simpa using h)]; omega
theorem zipP_evens : ∀ (a b : List (List UInt8)), a.length = b.length → evens (zipP a b) = a
  | [], _, _ => by simp [zipP, evens]
  | x :: xs, [], h => by simp at h
  | x :: xs, y :: ys, h => by simp only [zipP, evens]; rw [zipP_evens xs ys (by simpa using h)]
theorem zipP_mem {z : List UInt8} : ∀ {a b : List (List UInt8)}, z ∈ zipP a b → z ∈ a ∨ z ∈ b
  | [], _, h => by simp [zipP] at h
  | x :: xs, [], h => by simp [zipP] at h
  | x :: xs, y :: ys, h => by
    simp only [zipP, List.mem_cons] at h
    rcases h with h | h | h
    · exact .inl (by simp [h])
    · exact .inr (by simp [h])
    · rcases zipP_mem h with h | h
      · exact .inl (by simp [h])
      · exact .inr (by simp [h])
theorem rMap_in2 (a b y : List (List UInt8)) (hab : a.length = b.length) (ha : a.length ≤ 10000000) (q : Nat) (hq : q < y.length) (K : List (List UInt8) → Option (List UInt8)) : ∀ (m i n : Nat) (out : List (List UInt8)), i + m = a.length → m < n → out.length + 2 * m ≤ 100000000000 →
    m_ref9_Map_L14 a b y q K n out i = K (out ++ ((a.zip b).drop i).flatMap (fun p => if p.1 = y[q] then [y[q], p.2] else [])) := by
  intro m
  induction m with
  | zero =>
    intro i n out hi hn ho
    obtain ⟨n, rfl⟩ : ∃ q, n = q + 1 := ⟨n - 1, by omega⟩
    rw [m_ref9_Map_L14, m_ref9_Map_B14, if_neg (by omega), List.drop_eq_nil_of_le (by simp; omega)]; simp
  | succ m ih =>
    intro i n out hi hn ho
    obtain ⟨n, rfl⟩ : ∃ q, n = q + 1 := ⟨n - 1, by omega⟩
    have h1 : i < a.length := by omega
    have h2 : i < b.length := by omega
    have h3 : i < (a.zip b).length := by simp; omega
    rw [m_ref9_Map_L14, m_ref9_Map_B14, if_pos (by omega)]
    simp only [jn_eq]
    rw [need_pos (by omega), need_pos (by omega), need_pos (by omega), need_pos (by omega), need_pos (by simp; omega), gi_nat h1, gi_nat h2, gi_nat hq, i64_succ (by omega), List.drop_eq_getElem_cons h3, List.flatMap_cons, List.getElem_zip]
    by_cases he : a[i] = y[q]
    · simp only [he, if_true]
      rw [ih (i + 1) n (out ++ [y[q], b[i]]) (by omega) (by omega) (by simp; omega), List.append_assoc]
    · simp only [he, if_false]
      rw [ih (i + 1) n out (by omega) (by omega) (by omega), List.nil_append]
theorem rMap_len (a b : List (List UInt8)) (hab : a.length = b.length) (k : List UInt8) : ((a.zip b).flatMap (fun p => if p.1 = k then [k, p.2] else [])).length ≤ 2 * a.length := by
  have key : ∀ (l : List (List UInt8 × List UInt8)), (l.flatMap (fun p => if p.1 = k then [k, p.2] else [])).length ≤ 2 * l.length := by
    intro l
    induction l with
    | nil => simp
    | cons p l ih =>
      simp only [List.flatMap_cons, List.length_append, List.length_cons]
      split
      · simp only [List.length_cons, List.length_nil]; omega
      · simp only [List.length_nil]; omega
  have := key (a.zip b)
  simp at this ⊢; omega
theorem rMap_out2 (a b y : List (List UInt8)) (hab : a.length = b.length) (ha : a.length ≤ 200000) (hy : y.length ≤ 200000) (K : List (List UInt8) → Option (List UInt8)) : ∀ (m i n : Nat) (out : List (List UInt8)), i + m = y.length → m < n → out.length + 400000 * m ≤ 90000000000 →
    m_ref9_Map_L8 a b y K n out i = K (out ++ (y.drop i).flatMap (fun k => (a.zip b).flatMap (fun p => if p.1 = k then [k, p.2] else []))) := by
  have hFU := FU_ge
  intro m
  induction m with
  | zero =>
    intro i n out hi hn ho
    obtain ⟨n, rfl⟩ : ∃ q, n = q + 1 := ⟨n - 1, by omega⟩
    rw [m_ref9_Map_L8, m_ref9_Map_B8, if_neg (by omega), List.drop_eq_nil_of_le (by omega)]; simp
  | succ m ih =>
    intro i n out hi hn ho
    obtain ⟨n, rfl⟩ : ∃ q, n = q + 1 := ⟨n - 1, by omega⟩
    have h3 : i < y.length := by omega
    rw [m_ref9_Map_L8, m_ref9_Map_B8, if_pos (by omega)]
    simp only [jn_eq]
    have g1 := rMap_in2 a b y hab (by omega) i h3 (fun x6_j420 => m_ref9_Map_L8 a b y K n x6_j420 (i64 ((i : Int) + 1))) a.length 0 FU out (by omega) (by omega) (by omega)
    have hlen := rMap_len a b hab y[i]
    rw [Int.natCast_zero, List.drop_zero] at g1
    rw [g1, i64_succ (by omega), ih (i + 1) n _ (by omega) (by omega) (by rw [List.length_append]; omega), List.drop_eq_getElem_cons h3, List.flatMap_cons, List.append_assoc]
noncomputable def mpW (a b : List (List UInt8)) : List UInt8 := by
  classical exact if a.length = b.length ∧ (∀ x ∈ a, Vd x) ∧ (∀ x ∈ b, Vd x) ∧ (sortW a).length = a.length then cmpd 6 (mapW a b) else []
theorem mpW_yes {a b : List (List UInt8)} (h : a.length = b.length ∧ (∀ x ∈ a, Vd x) ∧ (∀ x ∈ b, Vd x) ∧ (sortW a).length = a.length) : mpW a b = cmpd 6 (mapW a b) := by unfold mpW; rw [if_pos h]
theorem mpW_no {a b : List (List UInt8)} (h : ¬ (a.length = b.length ∧ (∀ x ∈ a, Vd x) ∧ (∀ x ∈ b, Vd x) ∧ (sortW a).length = a.length)) : mpW a b = [] := by unfold mpW; rw [if_neg h]
theorem mapW_mem {a b : List (List UInt8)} {z : List UInt8} (h : z ∈ mapW a b) : z ∈ a ∨ z ∈ b := by
  unfold mapW at h
  obtain ⟨k, hk, h⟩ := List.mem_flatMap.1 h
  obtain ⟨p, hp, h⟩ := List.mem_flatMap.1 h
  obtain ⟨p1, p2⟩ := p
  split at h
  · simp only [List.mem_cons, List.not_mem_nil, or_false] at h
    rcases h with h | h
    · exact .inl (by rw [h]; exact ((sortW_spec a).2.1 k).1 hk)
    · exact .inr (by rw [h]; exact (List.of_mem_zip hp).2)
  · simp at h
theorem rMapW (a b : List (List UInt8)) (ha : a.length ≤ 200000) (hb : b.length ≤ 1000000000) : m_ref9_Map a b = some (mpW a b) := by
  have hFU := FU_ge
  unfold m_ref9_Map
  simp only [jn_eq]
  by_cases hl : a.length = b.length
  · rw [if_neg (fun h => h (by omega)), rAll a (by omega), bnd1_mk, rAll b (by omega)]
    simp only [bnd1_mk, rSort a (show a.length ≤ 10000000 by omega)]
    cases h1 : a.all vldB with
    | false =>
      rw [mpW_no (by
        rintro ⟨_, h, _⟩
        have : a.all vldB = true := List.all_eq_true.2 (fun x hx => vldB_iff.2 (h x hx))
        rw [h1] at this; cases this)]
      simp
    | true =>
      rw [if_neg (by simp)]
      have hA : ∀ x ∈ a, Vd x := fun x hx => vldB_iff.1 (List.all_eq_true.1 h1 x hx)
      cases h2 : b.all vldB with
      | false =>
        rw [mpW_no (by
          rintro ⟨_, _, h, _⟩
          have : b.all vldB = true := List.all_eq_true.2 (fun x hx => vldB_iff.2 (h x hx))
          rw [h2] at this; cases this)]
        simp
      | true =>
        have hB : ∀ x ∈ b, Vd x := fun x hx => vldB_iff.1 (List.all_eq_true.1 h2 x hx)
        rw [if_neg (by simp)]
        have hlen := (sortW_spec a).2.2
        by_cases hs : (sortW a).length = a.length
        · rw [if_neg (fun h => h (by omega)), mpW_yes ⟨hl, hA, hB, hs⟩]
          have g1 := rMap_out2 a b (sortW a) hl ha (by omega) (fun x6_j13 => bnd1 (m_ref9_compound 6 x6_j13) (fun y500 => some y500)) (sortW a).length 0 FU [] (by omega) (by omega) (by simp; omega)
          rw [Int.natCast_zero, List.drop_zero, List.nil_append] at g1
          have := rCompound 6 (by decide) (mapW a b) (fun x hx => (mapW_mem hx).elim (hA x) (hB x))
          rw [show ((6 : UInt8).toNat : Int) = 6 from rfl] at this
          unfold mapW at this
          rw [g1, this, bnd1_mk]
          rfl
        · rw [if_pos (fun h => hs (by omega)), mpW_no (fun h => hs h.2.2.2)]
  · rw [if_pos (fun h => hl (by omega)), if_pos trivial, mpW_no (fun h => hl h.1)]

/-! ### The generator -/
def PV (k c : Nat) (v : List UInt8) : Prop := IsV k v ∧ v.length ≤ c
theorem PV.le {k c k' c' : Nat} {v : List UInt8} (h : PV k c v) (hk : k ≤ k') (hc : c ≤ c') : PV k' c' v := ⟨h.1.le hk, Nat.le_trans h.2 hc⟩
theorem PV_all {k c : Nat} {l : List (List UInt8)} (h : ∀ x ∈ l, PV k c x) : (∀ x ∈ l, IsV k x) ∧ l.flatten.length ≤ c * l.length := ⟨fun x hx => (h x hx).1, flat_le (fun x hx => (h x hx).2)⟩
/-- A value with a property, and the choices go on. -/
def GVP (P : List UInt8 → Prop) (f : List Int × Int → Option (List UInt8 × (List Int × Int))) : Prop := ∀ (l : List Int) (i : Int), GS l i → ∃ v i', f (l, i) = some (v, (l, i')) ∧ GS l i' ∧ P v
theorem gValuesP_loop (self : List Int × Int → Int → Option (List UInt8 × (List Int × Int))) (d : Int) (P : List UInt8 → Prop) (hs : GVP P (fun s => self s d)) (K : List Int → Int → List (List UInt8) → Option (List (List UInt8) × (List Int × Int))) : ∀ (m n : Nat) (l : List Int) (i : Int) (out : List (List UInt8)), m < n → GS l i → out.length + m ≤ 1000 → (∀ x ∈ out, P x) →
    ∃ i' out', m_gen_Choices_Values_L2 self d K n l i out m = K l i' out' ∧ GS l i' ∧ out'.length = out.length + m ∧ ∀ x ∈ out', P x := by
  intro m
  induction m with
  | zero =>
    intro n l i out hn hg ho hx
    obtain ⟨n, rfl⟩ : ∃ q, n = q + 1 := ⟨n - 1, by omega⟩
    exact ⟨i, out, by rw [m_gen_Choices_Values_L2, m_gen_Choices_Values_B2, if_neg (by omega)], hg, rfl, hx⟩
  | succ m ih =>
    intro n l i out hn hg ho hx
    obtain ⟨n, rfl⟩ : ∃ q, n = q + 1 := ⟨n - 1, by omega⟩
    obtain ⟨v, i1, e1, g1, p1⟩ := hs l i hg
    have e2 : i64 (((m + 1 : Nat) : Int) - 1) = (m : Int) := by rw [i64_id (by omega)]; omega
    obtain ⟨i', out', h1, h2, h3, h4⟩ := ih n l i1 (out ++ [v]) (by omega) g1 (by simp; omega) (fun x h => by
      rcases List.mem_append.1 h with h | h
      · exact hx x h
      · rw [List.mem_singleton.1 h]; exact p1)
    refine ⟨i', out', ?_, h2, by rw [h3]; simp; omega, h4⟩
    simp only [] at e1
    rw [m_gen_Choices_Values_L2, m_gen_Choices_Values_B2, if_pos (by omega), e1, bnd1_mk]
    simp only []
    rw [need_pos (by simp; omega), e2, h1]
theorem gValuesP (self : List Int × Int → Int → Option (List UInt8 × (List Int × Int))) (d : Int) (P : List UInt8 → Prop) (hs : GVP P (fun s => self s d)) {l : List Int} {i : Int} (h : GS l i) {most : Int} (h0 : 0 < most) (h1 : most ≤ 100) :
    ∃ L i', m_gen_Choices_Values self (l, i) d most = some (L, (l, i')) ∧ GS l i' ∧ (L.length : Int) < most ∧ ∀ x ∈ L, P x := by
  have hFU := FU_ge
  unfold m_gen_Choices_Values
  rw [jn_eq]
  obtain ⟨y, i1, e1, g1, y0, y1⟩ := gNext h (n := most) (by omega) (by omega)
  obtain ⟨m, rfl⟩ : ∃ m : Nat, y = m := ⟨y.toNat, by omega⟩
  obtain ⟨i', L, h1, h2, h3, h4⟩ := gValuesP_loop self d P hs (fun x0_0_j1 x0_1_j1 x3_j1 => some (x3_j1, (x0_0_j1, x0_1_j1))) m FU l i1 [] (by omega) g1 (by simp; omega) (by simp)
  simp only []
  rw [e1, bnd1_mk]
  simp only []
  rw [h1]
  exact ⟨L, i', rfl, h2, by simp at h3; omega, h4⟩
theorem gValP_loop (self : List Int × Int → Int → Option (List UInt8 × (List Int × Int))) (d : Int) (P : List UInt8 → Prop) (hs : GVP P (fun s => self s (i64 (d - 1)))) (y : List (List UInt8)) (hy : y.length ≤ 1000) (K : List Int → Int → List (List UInt8) → Option (List UInt8 × (List Int × Int))) : ∀ (m q n : Nat) (l : List Int) (i : Int) (out : List (List UInt8)), q + m = y.length → m < n → GS l i → out.length + m ≤ 1000 → (∀ x ∈ out, P x) →
    ∃ i' out', m_gen_Choices_Value_L4 self d y K n l i out q = K l i' out' ∧ GS l i' ∧ out'.length = out.length + m ∧ ∀ x ∈ out', P x := by
  intro m
  induction m with
  | zero =>
    intro q n l i out hq hn hg ho hx
    obtain ⟨n, rfl⟩ : ∃ q, n = q + 1 := ⟨n - 1, by omega⟩
    exact ⟨i, out, by rw [m_gen_Choices_Value_L4, m_gen_Choices_Value_B4, if_neg (by omega)], hg, rfl, hx⟩
  | succ m ih =>
    intro q n l i out hq hn hg ho hx
    obtain ⟨n, rfl⟩ : ∃ q, n = q + 1 := ⟨n - 1, by omega⟩
    obtain ⟨v, i1, e1, g1, p1⟩ := hs l i hg
    obtain ⟨i', out', h1, h2, h3, h4⟩ := ih (q + 1) n l i1 (out ++ [v]) (by omega) (by omega) g1 (by simp; omega) (fun x h => by
      rcases List.mem_append.1 h with h | h
      · exact hx x h
      · rw [List.mem_singleton.1 h]; exact p1)
    refine ⟨i', out', ?_, h2, by rw [h3]; simp; omega, h4⟩
    simp only [] at e1
    rw [m_gen_Choices_Value_L4, m_gen_Choices_Value_B4, if_pos (by omega), e1, bnd1_mk]
    simp only []
    rw [need_pos (by simp; omega), i64_succ (by omega), h1]
/-- A compound of generated parts. -/
theorem comp_PV {c : UInt8} (hc : 3 ≤ c.toNat ∧ c.toNat ≤ 9) {l : List (List UInt8)} {k m : Nat} (hk : k ≤ 31) (hv : ∀ x ∈ l, IsV k x) (hl : l.flatten.length + 3 ≤ m) (hm : m ≤ 65535) (hf : formedB c l = true) : PV (k + 1) m (cmpd c l) := by
  have hn : l.length ≤ 65535 := by
    have := flatV_len (ps := l) (fun p hp => (show Vd p from ⟨(hv p hp).le (by omega), by have := flat_mem hp; omega⟩).ne)
    omega
  obtain ⟨h1, h2, _⟩ := comp_ok hc hk hv hn (by omega) hf
  rw [h1]; exact ⟨h2, by rw [raw_len]; omega⟩
theorem betB_int {k : Int} (h : 0 ≤ k ∧ k ≤ 65535) : betB (intW k) 0 65535 = true := by
  unfold betB
  rw [numV_intW (by omega), show gi (intW k) 0 = 1 from rfl, decide_eq_true h.1, decide_eq_true h.2]; rfl
theorem gValueP_leaf {l : List Int} {i1 : Int} (g1 : GS l i1) (x : Int) (hx : x = 0 ∨ x = 1 ∨ x = 2) (R3 R4 R5 R6 R7 R8 : Option (List UInt8 × (List Int × Int))) : ∃ v i', (if x = 1 then (bnd1 (m_gen_Choices_Next (l, i1) 2) (fun y45 => bnd1 (m_ref9_Bool (decide (y45.1 = 1))) (fun y46 => some (y46, (y45.2.1, y45.2.2))))) else (if x = 2 then (bnd1 (m_gen_Choices_Next (l, i1) 4) (fun y47 => bnd1 (m_ref9_Name y47.1) (fun y48 => some (y48, (y47.2.1, y47.2.2))))) else (if x = 3 then R3 else (if x = 4 then R4 else (if x = 5 then R5 else (if x = 6 then R6 else (if x = 7 then R7 else (if x = 8 then R8 else (bnd1 (m_gen_Choices_Number (l, i1)) (fun y85 => bnd1 (m_ref9_Int y85.1) (fun y86 => some (y86, (y85.2.1, y85.2.2)))))))))))) ) = some (v, (l, i')) ∧ GS l i' ∧ PV 1 9 v := by
  rcases hx with rfl | rfl | rfl
  · obtain ⟨v, i2, e2, g2⟩ := gNumber g1
    simp only [e2, bnd1_mk, rInt]
    exact ⟨_, _, rfl, g2, intW_IsV _ 0, by rw [intW_len]; omega⟩
  · obtain ⟨v, i2, e2, g2, _⟩ := gNext g1 (n := 2) (by omega) (by omega)
    obtain ⟨w, hw, hw2⟩ := rBoolW (decide (v = 1))
    simp only [e2, bnd1_mk, hw]
    exact ⟨_, _, rfl, g2, (hw2 0).1, by rw [(hw2 0).2]; omega⟩
  · obtain ⟨v, i2, e2, g2, h0, h1⟩ := gNext g1 (n := 4) (by omega) (by omega)
    have hw := rNameW (k := v) h0 (by omega)
    simp only [e2, bnd1_mk, hw]
    exact ⟨_, _, rfl, g2, nameW_IsV _ 0, by simp [nameW]⟩
theorem gValueP_F (self : List Int × Int → Int → Option (List UInt8 × (List Int × Int))) (d : Int) (k c : Nat) (hk : 1 ≤ k ∧ k ≤ 31) (hc : 9 ≤ c ∧ c ≤ 10000) (hd : d ≤ 1 ∨ (1 < d ∧ d ≤ 1000 ∧ GVP (PV k c) (fun s => self s (d - 1)))) : GVP (PV (if d ≤ 1 then 1 else k + 1) (if d ≤ 1 then 9 else 4 * c + 12)) (fun s => m_gen_Choices_Value_F self s d) := by
  have hFU := FU_ge
  intro l i h
  show ∃ v i', m_gen_Choices_Value_F self (l, i) d = some (v, (l, i')) ∧ GS l i' ∧ _
  unfold m_gen_Choices_Value_F
  obtain ⟨y, i1, e1, g1, y0, y1⟩ := gNext h (n := 9) (by omega) (by omega)
  rw [e1, bnd1_mk]
  simp only [jn_eq]
  by_cases hd1 : d ≤ 1
  · simp only [if_pos hd1]
    have t1 : 0 ≤ Int.tmod y 3 := Int.tmod_nonneg _ y0
    have t2 : Int.tmod y 3 < 3 := Int.tmod_lt_of_pos _ (by omega)
    exact gValueP_leaf g1 (Int.tmod y 3) (by omega) _ _ _ _ _ _
  · obtain ⟨_, hd2, hs⟩ := hd.resolve_left hd1
    simp only [if_neg hd1]
    have ed : i64 (d - 1) = d - 1 := i64_id (by omega)
    by_cases hy : y = 0 ∨ y = 1 ∨ y = 2
    · obtain ⟨v, i', a1, a2, a3⟩ := gValueP_leaf g1 y hy _ _ _ _ _ _
      exact ⟨v, i', a1, a2, a3.le (by omega) (by omega)⟩
    · rw [if_neg (by omega), if_neg (by omega), ed]
      rcases (show y = 3 ∨ y = 4 ∨ y = 5 ∨ y = 6 ∨ y = 7 ∨ y = 8 by omega) with rfl | rfl | rfl | rfl | rfl | rfl
      · obtain ⟨v, i2, e2, g2, p2⟩ := hs l i1 g1
        obtain ⟨w, i3, e3, g3, p3⟩ := hs l i2 g2
        have := rMake 3 (by decide) [v, w] (by simp)
        rw [show ((3 : UInt8).toNat : Int) = 3 from rfl] at this
        simp only [] at e2 e3
        simp only [if_true, e2, bnd1_mk, e3, this]
        refine ⟨_, _, rfl, g3, comp_PV (by decide) hk.2 (fun x hx => ?_) ?_ (by omega) rfl⟩
        · simp at hx; rcases hx with rfl | rfl
          · exact p2.1
          · exact p3.1
        · have a1 := p2.2; have a2 := p3.2; simp; omega
      · obtain ⟨L, i2, e2, g2, hl, hp⟩ := gValuesP self (d - 1) _ hs g1 (most := 4) (by omega) (by omega)
        have := rMake 4 (by decide) L (by omega)
        obtain ⟨q1, q2⟩ := PV_all hp
        have q3 : c * L.length ≤ c * 3 := Nat.mul_le_mul_left c (by omega)
        rw [show ((4 : UInt8).toNat : Int) = 4 from rfl] at this
        rw [if_neg (by omega), if_pos rfl, e2, bnd1_mk, this, bnd1_mk]
        exact ⟨_, _, rfl, g2, comp_PV (by decide) hk.2 q1 (by omega) (by omega) rfl⟩
      · obtain ⟨L, i2, e2, g2, hl, hp⟩ := gValuesP self (d - 1) _ hs g1 (most := 4) (by omega) (by omega)
        have hm := (sortW_spec L).2.1
        have hsl := (sortW_spec L).2.2
        obtain ⟨q1, q2⟩ := PV_all (fun x hx => hp x ((hm x).1 hx))
        have q3 : c * (sortW L).length ≤ c * 3 := Nat.mul_le_mul_left c (by omega)
        rw [if_neg (by omega), if_neg (by omega), if_pos rfl, e2, bnd1_mk, rSet L (by omega), bnd1_mk]
        refine ⟨_, _, rfl, g2, comp_PV (by decide) hk.2 q1 (by omega) (by omega) ?_⟩
        have := SLC_ascB (fun x hx => (show Vd x from ⟨(q1 x hx).le (by omega), by have := flat_mem hx; omega⟩)) (sortW_spec L).1
        simpa [formedB] using this
      · obtain ⟨j, i2, e2, g2, j0, j1⟩ := gNext g1 (n := 3) (by omega) (by omega)
        obtain ⟨L, i3, e3, g3, hl, hp⟩ := gValuesP self (d - 1) _ hs g2 (most := 3) (by omega) (by omega)
        obtain ⟨q1, q2⟩ := PV_all hp
        have q3 : c * L.length ≤ c * 2 := Nat.mul_le_mul_left c (by omega)
        have hv := rDotW (k := j) j0 (by omega) L (by omega)
        rw [if_neg (by omega), if_neg (by omega), if_neg (by omega), if_pos rfl, e2, bnd1_mk]
        simp only []
        rw [e3, bnd1_mk, hv, bnd1_mk]
        refine ⟨_, _, rfl, g3, comp_PV (by decide) hk.2 (fun x hx => ?_) ?_ (by omega) ?_⟩
        · rcases List.mem_cons.1 hx with rfl | hx
          · exact (nameW_IsV j 0).le hk.1
          · exact q1 x hx
        · simp [nameW]; simp at q2; omega
        · simp [formedB, gi2_00, nameW]; omega
      · obtain ⟨L, i2, e2, g2, hl, hp⟩ := gValuesP self (d - 1) _ hs g1 (most := 3) (by omega) (by omega)
        have hm := (sortW_spec L).2.1
        have hsl := (sortW_spec L).2.2
        rw [if_neg (by omega), if_neg (by omega), if_neg (by omega), if_neg (by omega), if_pos rfl, e2, bnd1_mk, rSort L (by omega), bnd1_mk]
        obtain ⟨i3, O, h1, h2, h3, h4⟩ := gValP_loop self d _ (by rw [ed]; exact hs) (sortW L) (by omega) (fun x0_0_j61 x0_1_j61 x7_j61 => bnd1 (m_ref9_Map (sortW L) x7_j61) (fun y81 => some (y81, (x0_0_j61, x0_1_j61)))) (sortW L).length 0 FU l i2 [] (by omega) (by omega) g2 (by simp; omega) (by simp)
        rw [Int.natCast_zero] at h1
        have h3' : (sortW L).length = O.length := by simp at h3; omega
        have hs1 := (sortW_spec L).1
        have hPk : ∀ x ∈ sortW L, PV k c x := fun x hx => hp x ((hm x).1 hx)
        have hVk : ∀ x, PV k c x → Vd x := fun x hx => ⟨hx.1.le (by omega), by have := hx.2; omega⟩
        have hz : ∀ x ∈ zipP (sortW L) O, PV k c x := fun x hx => (zipP_mem hx).elim (hPk x) (h4 x)
        obtain ⟨q1, q2⟩ := PV_all hz
        have hzl := zipP_len (sortW L) O h3'
        have q3 : c * (zipP (sortW L) O).length ≤ c * 4 := Nat.mul_le_mul_left c (by omega)
        have hmp : mpW (sortW L) O = cmpd 6 (zipP (sortW L) O) := by
          rw [mpW_yes ⟨h3', fun x hx => hVk x (hPk x hx), fun x hx => hVk x (h4 x hx), by rw [sortW_id hs1]⟩, mapW_sorted hs1]
        simp only []
        rw [h1, rMapW (sortW L) O (by omega) (by omega), hmp, bnd1_mk]
        refine ⟨_, _, rfl, h2, comp_PV (by decide) hk.2 q1 (by omega) (by omega) ?_⟩
        have := SLC_ascB (fun x hx => hVk x (hPk x hx)) hs1
        simp [formedB, zipP_evens _ _ h3', this, hzl]
      · obtain ⟨j, i2, e2, g2, j0, j1⟩ := gNext g1 (n := 3) (by omega) (by omega)
        obtain ⟨L, i3, e3, g3, hl, hp⟩ := gValuesP self (d - 1) _ hs g2 (most := 2) (by omega) (by omega)
        obtain ⟨q1, q2⟩ := PV_all hp
        have q3 : c * L.length ≤ c * 1 := Nat.mul_le_mul_left c (by omega)
        have hv := rNumberedW 8 (by decide) j L (by omega)
        rw [show ((8 : UInt8).toNat : Int) = 8 from rfl] at hv
        rw [if_neg (by omega), if_neg (by omega), if_neg (by omega), if_neg (by omega), if_neg (by omega), if_pos rfl, e2, bnd1_mk]
        simp only []
        rw [e3, bnd1_mk, hv, bnd1_mk]
        refine ⟨_, _, rfl, g3, comp_PV (by decide) hk.2 (fun x hx => ?_) ?_ (by omega) ?_⟩
        · rcases List.mem_cons.1 hx with rfl | hx
          · exact (intW_IsV j 0).le hk.1
          · exact q1 x hx
        · simp [intW_len]; simp at q2; omega
        · simp [formedB, gi2_00, betB_int (k := j) ⟨j0, by omega⟩]; omega
/-- How long a generated value of depth d can be. -/
def szV : Nat → Nat
  | 0 => 9
  | 1 => 9
  | d + 2 => 4 * szV (d + 1) + 12
theorem gValueP_S : ∀ (k : Nat), k ≤ 5 → ∀ n, k < n → GVP (PV (max k 1) (szV k)) (fun s => m_gen_Choices_Value_S n s (k : Int))
  | 0, _, n, hn => by
    obtain ⟨n, rfl⟩ : ∃ q, n = q + 1 := ⟨n - 1, by omega⟩
    exact gValueP_F _ _ 1 9 (by omega) (by omega) (.inl (by omega))
  | 1, _, n, hn => by
    obtain ⟨n, rfl⟩ : ∃ q, n = q + 1 := ⟨n - 1, by omega⟩
    exact gValueP_F _ _ 1 9 (by omega) (by omega) (.inl (by omega))
  | k + 2, hk, n, hn => by
    obtain ⟨n, rfl⟩ : ∃ q, n = q + 1 := ⟨n - 1, by omega⟩
    have ih := gValueP_S (k + 1) (by omega) n (by omega)
    have hsz : 9 ≤ szV (k + 1) ∧ szV (k + 1) ≤ 10000 := by
      have : k ≤ 3 := by omega
      rcases (show k = 0 ∨ k = 1 ∨ k = 2 ∨ k = 3 by omega) with rfl | rfl | rfl | rfl <;> decide
    have := gValueP_F (m_gen_Choices_Value_S n) ((k + 2 : Nat) : Int) (max (k + 1) 1) (szV (k + 1)) (by omega) hsz (.inr ⟨by omega, by omega, by
      rw [show ((k + 2 : Nat) : Int) - 1 = ((k + 1 : Nat) : Int) by omega]; exact ih⟩)
    rw [if_neg (by omega), if_neg (by omega)] at this
    intro l i h
    obtain ⟨v, i', a1, a2, a3⟩ := this l i h
    exact ⟨v, i', a1, a2, a3.le (by omega) (Nat.le_refl _)⟩
theorem gValueP (k : Nat) (hk : k ≤ 5) : GVP (PV (max k 1) (szV k)) (fun s => m_gen_Choices_Value s (k : Int)) := by
  have hFU := FU_ge
  exact gValueP_S k hk FU (by omega)

/-! ### Lists -/
end Go.Proofs.YtdppkpiagdaigaaGreatDoor
/- The check of layer 9: text, kind and order of one set. -/
namespace Go.Proofs.YtdppkpiagdaigaaGreatDoor
attribute [local irreducible] FU

theorem cmpC_int {a b : Int} (ha : -9223372036854775808 ≤ a ∧ a ≤ 9223372036854775807) (hb : -9223372036854775808 ≤ b ∧ b ≤ 9223372036854775807) : cmpC (intW a) (intW b) = sgn a b := by
  have va : Vd (intW a) := ⟨intW_IsV a 31, by rw [intW_len]; omega⟩
  have vb : Vd (intW b) := ⟨intW_IsV b 31, by rw [intW_len]; omega⟩
  rw [cmpC_val va vb]
  unfold cmpW
  show (if intW a = intW b then 0 else if gi (intW a) 0 ≠ gi (intW b) 0 then sgnB (gi (intW a) 0) (gi (intW b) 0) else if gi (intW a) 0 = 1 then sgn (numV (intW a)) (numV (intW b)) else _) = _
  by_cases h : intW a = intW b
  · rw [if_pos h, intW_inj ha hb h]; unfold sgn; simp
  · rw [if_neg h, if_neg (fun hn => hn rfl), if_pos (show gi (intW a) 0 = 1 from rfl), numV_intW ha, numV_intW hb]
theorem sort12 : sortW [intW 2, intW 1, intW 2] = [intW 1, intW 2] := by
  refine slc_ext (sortW_spec _).1 ?_ (fun x => ?_)
  · refine List.pairwise_cons.2 ⟨fun y hy => ?_, by simp⟩
    rw [List.mem_singleton] at hy
    subst hy
    rw [cmpC_int (by omega) (by omega)]; decide
  · rw [(sortW_spec _).2.1]; simp; exact fun h => .inr h
theorem text_small (i : Int) (n : Nat) (h : i = 1 ∨ i = 2) (names : List (List UInt8)) : m_value_text_S (n + 1) (intW i) names = some (if i = 1 then [49] else [50]) := by
  have hi : numV (intW i) = i := numV_intW (by omega)
  rw [m_value_text_S]
  unfold m_value_text_F
  rw [need_pos (by rw [intW_len]; omega), if_pos (show gi (intW i) 0 = 1 from rfl), vInteger _ (by rw [intW_len]; omega), bnd1_mk]
  have e : i64 (beNat (((intW i).drop 1).take 8)) = i := by
    rw [List.take_of_length_le (by rw [List.length_drop, intW_len]; omega)]; exact hi
  rw [e]
  rcases h with rfl | rfl
  · unfold m_strconv_FormatInt m_internal_strconv_FormatInt m_internal_strconv_small
    simp only [jn_eq]
    rfl
  · unfold m_strconv_FormatInt m_internal_strconv_FormatInt m_internal_strconv_small
    simp only [jn_eq]
    rfl
theorem set12 : setW [intW 2, intW 1, intW 2] = raw 5 [intW 1, intW 2] ∧ prtW (setW [intW 2, intW 1, intW 2]) = [intW 1, intW 2] ∧ isSet (setW [intW 2, intW 1, intW 2]) = true ∧ vldB (setW [intW 2, intW 1, intW 2]) = true := by
  have hl : ∀ x ∈ [intW 2, intW 1, intW 2], IsV 1 x := fun x hx => by
    simp at hx
    rcases hx with rfl | rfl | rfl <;> exact intW_IsV _ 0
  obtain ⟨a1, a2, a3, a4, _, a6⟩ := set_ok (l := [intW 2, intW 1, intW 2]) (k := 1) (by omega) hl (by rw [sort12]; simp) (by rw [sort12]; simp [intW_len])
  rw [sort12] at a1 a3
  exact ⟨a1, a3, a4, vldB_iff.2 ⟨a2.le (by omega), a6⟩⟩
theorem text_12 : m_value_text (raw 5 [intW 1, intW 2]) [] = some [123, 49, 44, 32, 50, 125] := by
  obtain ⟨n, hn⟩ := FU_k 2 (by omega)
  obtain ⟨q, hq⟩ := FU_k 3 (by omega)
  unfold m_value_text
  rw [hn]
  have h1 := text_small 1 n (.inl rfl) []
  have h2 := text_small 2 n (.inr rfl) []
  rw [if_pos rfl] at h1
  rw [if_neg (by decide)] at h2
  rw [m_value_text_S]
  generalize m_value_text_S (n + 1) = T at h1 h2
  have hp : m_value_parts (raw 5 [intW 1, intW 2]) = some [intW 1, intW 2] := vParts (k := 1) (fun p hp => by
    simp at hp
    rcases hp with rfl | rfl
    · exact (intW_IsV 1 0).sh
    · exact (intW_IsV 2 0).sh) (by omega) (by simp [intW_len])
  have g0 : gi (raw 5 [intW 1, intW 2]) 0 = 5 := rfl
  unfold m_value_text_F
  rw [need_pos (by rw [raw_len]; omega), g0, if_neg (by decide), if_neg (by decide), if_neg (by decide), jn_eq, hp, bnd1_mk]
  rw [hq, m_value_text_L2, m_value_text_B2, if_pos (by simp), need_pos (by simp), gi2_0, h1, bnd1_mk, need_pos (by simp), i64_id (by omega), m_value_text_L2, m_value_text_B2, if_pos (by simp), need_pos (by simp), show gi [intW 1, intW 2] (0 + 1) = intW 2 from rfl, h2, bnd1_mk, need_pos (by simp), i64_id (by omega), m_value_text_L2, m_value_text_B2, if_neg (by simp)]
  have hj : m_join ([] ++ [[49]] ++ [[50]]) [44, 32] = some [49, 44, 32, 50] := by
    unfold m_join
    rw [show Lib.join ([] ++ [[49]] ++ [[50]]) [44, 32] = ([49, 44, 32, 50] : List UInt8) from rfl, need_pos (by simp)]
  rw [hj, bnd1_mk, need_pos (by rw [raw_len]; omega), if_neg (by decide), if_pos rfl, need_pos (by simp), need_pos (by simp)]
  rfl
theorem awake9_true : m_law9_awake = some true := by
  obtain ⟨s1, s2, s3, s4⟩ := set12
  unfold m_law9_awake
  have hk : kindW (setW [intW 2, intW 1, intW 2]) = 5 := of_decide_eq_true s3
  have hT : m_value_Text (setW [intW 2, intW 1, intW 2]) [] = some [123, 49, 44, 32, 50, 125] := by
    unfold m_value_Text
    rw [vValid, s4, bnd1_mk, if_neg (by simp), s1, text_12, bnd1_mk]
  simp only [vInt, bnd1_mk, vSet [intW 2, intW 1, intW 2] (by simp) (fun x hx => by
    simp at hx
    rcases hx with rfl | rfl | rfl <;> rw [intW_len] <;> omega), jn_eq, vKind, hk, vPartsW, s2, hT, vCompareW]
  rw [if_pos (show intW 1 = [1, 0, 0, 0, 0, 0, 0, 0, 1] from rfl), if_pos trivial, if_pos (by simp), if_pos trivial, cmpC_int (by omega) (by omega)]
  rfl
end Go.Proofs.YtdppkpiagdaigaaGreatDoor
/- Comparing is a total order. -/
namespace Go.Proofs.YtdppkpiagdaigaaGreatDoor
attribute [local irreducible] FU

section
variable (a3 : List UInt8) (y3 y6 y9 : (List UInt8) × ((List Int) × Int))
end
theorem gs_new9 {c : List Int} (hc : c.length ≤ maxLen ∧ ∀ x ∈ c, (Lit.int .i64 x).wf = true) : GS c 0 := ⟨by omega, by omega, by have := hc.1; unfold maxLen at this; omega⟩
end Go.Proofs.YtdppkpiagdaigaaGreatDoor
/- Kind and Parts of a value return what it was made from. -/
namespace Go.Proofs.YtdppkpiagdaigaaGreatDoor
attribute [local irreducible] FU

theorem vSeqL (l : List (List UInt8)) (hx : ∀ x ∈ l, x.length ≤ 1099511627776) : m_value_Seq l = some (cmpd 4 l) := by
  unfold m_value_Seq
  have := vCompound 4 l hx
  rw [show ((4 : UInt8).toNat : Int) = 4 from rfl] at this
  rw [this, bnd1_mk]
theorem vNameW {k : Int} (h0 : 0 ≤ k) (h1 : k ≤ 65535) : m_value_Name k = some (nameW k) := by
  unfold m_value_Name
  simp only [jn_eq]
  unfold m_value_append16
  have e : IntKind.u16.wrap k = k := by
    unfold IntKind.wrap IntKind.bits IntKind.signed
    simp; omega
  rw [if_neg (by omega), if_neg (by simp; omega), e, need_pos (by simp), show (2 : Int) ^ min (Int.toNat 8) IntKind.u16.bits = 256 from rfl, Int.fdiv_eq_ediv_of_nonneg _ (by omega), bnd1_mk]; rfl
theorem hMod (a : Int) {n : Int} (h0 : 0 < n) (h1 : n ≤ 1000000) : ∃ y, m_help_Mod a n = some y ∧ 0 ≤ y ∧ y < n := by
  have en : IntKind.u64.wrap n = n := by rw [wrap_u64]; omega
  have ha := wrap_u64 a
  have h3 : 0 ≤ Int.tmod (IntKind.u64.wrap a) n := Int.tmod_nonneg _ (by omega)
  have h4 : Int.tmod (IntKind.u64.wrap a) n < n := Int.tmod_lt_of_pos _ h0
  unfold m_help_Mod
  rw [en, need_pos (by omega)]
  exact ⟨_, rfl, by rw [i64_id (by omega)]; exact h3, by rw [i64_id (by omega)]; exact h4⟩
end Go.Proofs.YtdppkpiagdaigaaGreatDoor
/- value.Map, the program's and the reference's; the other makers. -/
namespace Go.Proofs.YtdppkpiagdaigaaGreatDoor
attribute [local irreducible] FU

theorem nodup_of_len : ∀ {l r : List (List UInt8)}, r.Nodup → (∀ x ∈ r, x ∈ l) → (∀ x ∈ l, x ∈ r) → l.length ≤ r.length → l.Nodup
  | [], _, _, _, _, _ => List.nodup_nil
  | x :: l, r, hr, h1, h2, hl => by
    have hx : x ∉ l := fun hx => by
      have := nodup_len hr (l := l) (fun y hy => by
        rcases List.mem_cons.1 (h1 y hy) with rfl | h
        · exact hx
        · exact h)
      simp at hl; omega
    have hxr := h2 x (by simp)
    refine List.nodup_cons.2 ⟨hx, nodup_of_len (r := r.erase x) (hr.erase x) (fun y hy => ?_) (fun y hy => ?_) ?_⟩
    · obtain ⟨hne, hy⟩ := hr.mem_erase_iff.1 hy
      exact (List.mem_cons.1 (h1 y hy)).resolve_left hne
    · exact hr.mem_erase_iff.2 ⟨fun e => hx (e ▸ hy), h2 y (by simp [hy])⟩
    · rw [List.length_erase_of_mem hxr]; simp at hl; omega
theorem nodup_sort {a : List (List UInt8)} (h : (sortW a).length = a.length) : a.Nodup :=
  nodup_of_len (slc_nodup (sortW_spec a).1) (fun x hx => ((sortW_spec a).2.1 x).1 hx) (fun x hx => ((sortW_spec a).2.1 x).2 hx) (by omega)
abbrev pick2 (a b : List (List UInt8)) (k : List UInt8) : List (List UInt8) := (a.zip b).flatMap (fun p => if p.1 = k then [k, p.2] else [])
theorem pick2_at : ∀ (a b : List (List UInt8)), a.Nodup → a.length = b.length → ∀ (i : Nat) (h : i < a.length) (h' : i < b.length), pick2 a b a[i] = [a[i], b[i]]
  | [], _, _, _, i, h, _ => by simp at h
  | x :: xs, [], _, hl, _, _, _ => by simp at hl
  | x :: xs, y :: ys, hn, hl, 0, h, h' => by
    obtain ⟨h1, h2⟩ := List.nodup_cons.1 hn
    simp only [pick2, List.zip_cons_cons, List.flatMap_cons, List.getElem_cons_zero, if_true]
    rw [zip_none xs ys h1]; rfl
  | x :: xs, y :: ys, hn, hl, i + 1, h, h' => by
    obtain ⟨h1, h2⟩ := List.nodup_cons.1 hn
    have hi : i < xs.length := by simpa using h
    have hi' : i < ys.length := by simpa using h'
    have hne : ¬ x = xs[i] := fun e => h1 (e ▸ List.getElem_mem hi)
    simp only [pick2, List.zip_cons_cons, List.flatMap_cons, List.getElem_cons_succ, hne, if_false, List.nil_append]
    exact pick2_at xs ys h2 (by simpa using hl) i hi hi'
theorem mapW_flat (a b : List (List UInt8)) : mapW a b = (sortW a).flatMap (pick2 a b) := rfl
theorem rMap_out3 (a b y : List (List UInt8)) (hn : a.Nodup) (hya : ∀ x ∈ y, x ∈ a) (hab : a.length = b.length) (ha : a.length ≤ 10000000) (hy : y.length ≤ 10000000) (K : List (List UInt8) → Option (List UInt8)) : ∀ (m i n : Nat) (out : List (List UInt8)), i + m = y.length → m < n → out.length + 2 * m ≤ 90000000000 →
    m_ref9_Map_L8 a b y K n out i = K (out ++ (y.drop i).flatMap (pick2 a b)) := by
  have hFU := FU_ge
  intro m
  induction m with
  | zero =>
    intro i n out hi hn ho
    obtain ⟨n, rfl⟩ : ∃ q, n = q + 1 := ⟨n - 1, by omega⟩
    rw [m_ref9_Map_L8, m_ref9_Map_B8, if_neg (by omega), List.drop_eq_nil_of_le (by omega)]; simp
  | succ m ih =>
    intro i n out hi hn' ho
    obtain ⟨n, rfl⟩ : ∃ q, n = q + 1 := ⟨n - 1, by omega⟩
    have h3 : i < y.length := by omega
    rw [m_ref9_Map_L8, m_ref9_Map_B8, if_pos (by omega)]
    simp only [jn_eq]
    have g1 := rMap_in2 a b y hab (by omega) i h3 (fun x6_j420 => m_ref9_Map_L8 a b y K n x6_j420 (i64 ((i : Int) + 1))) a.length 0 FU out (by omega) (by omega) (by omega)
    obtain ⟨j, hj, ej⟩ := List.getElem_of_mem (hya y[i] (List.getElem_mem h3))
    have hlen : (pick2 a b y[i]).length = 2 := by rw [← ej, pick2_at a b hn hab j hj (by omega)]; rfl
    rw [Int.natCast_zero, List.drop_zero] at g1
    rw [g1, i64_succ (by omega), ih (i + 1) n _ (by omega) (by omega) (by rw [List.length_append]; show _ + (pick2 a b y[i]).length + _ ≤ _; omega), List.drop_eq_getElem_cons h3, List.flatMap_cons, List.append_assoc]
theorem rMapX (a b : List (List UInt8)) (ha : a.length ≤ 10000000) (hb : b.length ≤ 1000000000) : m_ref9_Map a b = some (mpW a b) := by
  have hFU := FU_ge
  unfold m_ref9_Map
  simp only [jn_eq]
  by_cases hl : a.length = b.length
  · rw [if_neg (fun h => h (by omega)), rAll a (by omega), bnd1_mk, rAll b (by omega)]
    simp only [bnd1_mk, rSort a (show a.length ≤ 10000000 by omega)]
    cases h1 : a.all vldB with
    | false =>
      rw [mpW_no (by
        rintro ⟨_, h, _⟩
        have : a.all vldB = true := List.all_eq_true.2 (fun x hx => vldB_iff.2 (h x hx))
        rw [h1] at this; cases this)]
      simp
    | true =>
      rw [if_neg (by simp)]
      have hA : ∀ x ∈ a, Vd x := fun x hx => vldB_iff.1 (List.all_eq_true.1 h1 x hx)
      cases h2 : b.all vldB with
      | false =>
        rw [mpW_no (by
          rintro ⟨_, _, h, _⟩
          have : b.all vldB = true := List.all_eq_true.2 (fun x hx => vldB_iff.2 (h x hx))
          rw [h2] at this; cases this)]
        simp
      | true =>
        have hB : ∀ x ∈ b, Vd x := fun x hx => vldB_iff.1 (List.all_eq_true.1 h2 x hx)
        rw [if_neg (by simp)]
        have hlen := (sortW_spec a).2.2
        by_cases hs : (sortW a).length = a.length
        · rw [if_neg (fun h => h (by omega)), mpW_yes ⟨hl, hA, hB, hs⟩]
          have g1 := rMap_out3 a b (sortW a) (nodup_sort hs) (fun x hx => ((sortW_spec a).2.1 x).1 hx) hl ha (by omega) (fun x6_j13 => bnd1 (m_ref9_compound 6 x6_j13) (fun y500 => some y500)) (sortW a).length 0 FU [] (by omega) (by omega) (by simp; omega)
          rw [Int.natCast_zero, List.drop_zero, List.nil_append] at g1
          have := rCompound 6 (by decide) (mapW a b) (fun x hx => (mapW_mem hx).elim (hA x) (hB x))
          rw [show ((6 : UInt8).toNat : Int) = 6 from rfl] at this
          rw [g1, ← mapW_flat, this, bnd1_mk]
        · rw [if_pos (fun h => hs (by omega)), mpW_no (fun h => hs h.2.2.2)]
  · rw [if_pos (fun h => hl (by omega)), if_pos trivial, mpW_no (fun h => hl h.1)]

/-! ### The program's -/
def idx (n : Nat) : List Int := (List.range n).map (fun i : Nat => (i : Int))
theorem vMap_fill (a : List (List UInt8)) (ha : a.length ≤ 1000000000) (K : List Int → Option (List UInt8)) : ∀ (m i n : Nat), i + m = a.length → m < n → m_value_Map_L2 a K n (idx i ++ List.replicate m 0) i = K (idx a.length) := by
  intro m
  induction m with
  | zero =>
    intro i n hi hn
    obtain ⟨n, rfl⟩ : ∃ q, n = q + 1 := ⟨n - 1, by omega⟩
    rw [m_value_Map_L2, m_value_Map_B2, if_neg (by simp; omega), show i = a.length by omega]; simp
  | succ m ih =>
    intro i n hi hn
    obtain ⟨n, rfl⟩ : ∃ q, n = q + 1 := ⟨n - 1, by omega⟩
    have hli : (idx i).length = i := by simp [idx]
    rw [m_value_Map_L2, m_value_Map_B2, if_pos (by simp; omega), need_pos (by simp [hli]; omega), i64_succ (by omega), Int.toNat_natCast, List.set_append_right _ _ (by omega), hli, Nat.sub_self, List.replicate_succ, List.set_cons_zero, ← ih (i + 1) n (by omega) (by omega)]
    congr 1
    unfold idx
    rw [List.range_succ, List.map_append, List.append_assoc]; rfl
theorem vMap_cmp (a : List (List UInt8)) {i k : Int} (h0 : 0 ≤ i ∧ i < a.length) (h1 : 0 ≤ k ∧ k < a.length) : m_value_Map_1 i k a = some (cmpC (gi a i) (gi a k)) := by
  unfold m_value_Map_1
  rw [need_pos h0, need_pos h1, vCompareW, bnd1_mk]
theorem idx_mem {n : Nat} {i : Int} : i ∈ idx n ↔ 0 ≤ i ∧ i < n := by
  unfold idx
  simp only [List.mem_map, List.mem_range]
  constructor
  · rintro ⟨q, hq, rfl⟩; omega
  · rintro ⟨h1, h2⟩; exact ⟨i.toNat, by omega, by omega⟩
theorem vMap_sorted {a : List (List UInt8)} (hn : a.Nodup) (ha : a.length ≤ 1000000000) : ∃ y : List Int, m_sortbyOn (idx a.length) (fun x0 x1 => m_value_Map_1 x0 x1 a) = some y ∧ (∀ i, i ∈ y ↔ 0 ≤ i ∧ i < a.length) ∧ y.length = a.length ∧ sortW a = y.map (gi a) := by
  have hc : ∀ x y : Int, x ∈ idx a.length → y ∈ idx a.length → m_value_Map_1 x y a = some (cmpC (gi a x) (gi a y)) := fun x y hx hy => vMap_cmp a (idx_mem.1 hx) (idx_mem.1 hy)
  have hlt : ∀ x y : Int, x ∈ idx a.length → y ∈ idx a.length → ltC (fun x0 x1 => m_value_Map_1 x0 x1 a) x y = decide (cmpC (gi a x) (gi a y) < 0) := fun x y hx hy => by
    unfold ltC cfOf
    simp only [hc x y hx hy]; rfl
  have hinj : ∀ x y : Int, x ∈ idx a.length → y ∈ idx a.length → gi a x = gi a y → x = y := fun x y hx hy e => by
    obtain ⟨a1, a2⟩ := idx_mem.1 hx
    obtain ⟨b1, b2⟩ := idx_mem.1 hy
    obtain ⟨p, rfl⟩ : ∃ p : Nat, x = p := ⟨x.toNat, by omega⟩
    obtain ⟨q, rfl⟩ : ∃ q : Nat, y = q := ⟨y.toNat, by omega⟩
    rw [gi_nat (by omega), gi_nat (by omega)] at e
    have hp := List.pairwise_iff_getElem.1 hn
    rcases Nat.lt_trichotomy p q with h | h | h
    · exact absurd e (hp p q (by omega) (by omega) h)
    · rw [h]
    · exact absurd e.symm (hp q p (by omega) (by omega) h)
  have hon : CmpOn (fun x => x ∈ idx a.length) (fun x0 x1 => m_value_Map_1 x0 x1 a) := by
    refine ⟨fun x y hx hy => ⟨_, hc x y hx hy⟩, fun x hx => ?_, fun x y z hx hy hz => ?_, fun x y z hx hy hz => ?_, fun x y hx hy => ?_⟩
    · rw [hlt x x hx hx, cmpC_self]; rfl
    · rw [hlt x y hx hy, hlt y z hy hz, hlt x z hx hz]
      simp only [decide_eq_true_eq]; exact cmpC_trans
    · rw [hlt x y hx hy, hlt y z hy hz, hlt x z hx hz]
      simp only [decide_eq_false_iff_not]
      intro h1 h2 h3
      have a1 := cmpC_anti (gi a x) (gi a y)
      have a2 := cmpC_anti (gi a y) (gi a z)
      by_cases e1 : cmpC (gi a x) (gi a y) = 0
      · rw [cmpC_eq] at e1; rw [e1] at h3; exact h2 h3
      · exact h2 (cmpC_trans (a := gi a y) (b := gi a x) (c := gi a z) (by omega) h3)
    · rw [hlt x y hx hy, hlt y x hy hx]
      simp only [decide_eq_false_iff_not]
      intro h1 h2
      have a1 := cmpC_anti (gi a x) (gi a y)
      exact hinj x y hx hy (cmpC_eq.1 (by omega))
  have hlen : (idx a.length).length = a.length := by simp [idx]
  refine ⟨_, m_sortbyOn_eq (by omega) hon, fun i => ?_, by unfold sortC; rw [List.length_mergeSort]; exact hlen, ?_⟩
  · unfold sortC; rw [List.mem_mergeSort]; exact idx_mem
  · -- the indices, sorted by their keys
    let le : Int → Int → Bool := fun x y => !decide (cmpC (gi a y) (gi a x) < 0)
    have e1 : sortC (fun x0 x1 => m_value_Map_1 x0 x1 a) (idx a.length) = (idx a.length).mergeSort le := by
      have := List.map_mergeSort (f := fun x : Int => x) (r := fun x y => !ltC (fun x0 x1 => m_value_Map_1 x0 x1 a) y x) (s := le) (l := idx a.length) (fun x hx y hy => by show (!_) = (!_); rw [hlt y x hy hx])
      simpa [sortC] using this
    have hp := List.pairwise_mergeSort (le := le) (fun x y z h1 h2 => by
      simp only [le, Bool.not_eq_true', decide_eq_false_iff_not] at h1 h2 ⊢
      intro h3
      have a1 := cmpC_anti (gi a y) (gi a x)
      by_cases e1 : cmpC (gi a y) (gi a x) = 0
      · rw [cmpC_eq] at e1; rw [← e1] at h3; exact h2 h3
      · exact h2 (cmpC_trans (a := gi a z) (b := gi a x) (c := gi a y) h3 (by omega))) (fun x y => by
      simp only [le, Bool.or_eq_true, Bool.not_eq_true', decide_eq_false_iff_not]
      have := cmpC_anti (gi a x) (gi a y)
      omega) (idx a.length)
    have hnd : ((idx a.length).mergeSort le).Nodup := by
      refine (List.mergeSort_perm _ _).nodup_iff.2 ?_
      unfold idx
      exact List.pairwise_map.2 (List.nodup_range.imp (fun {p q} h e => h (by omega)))
    rw [e1]
    refine slc_ext (sortW_spec a).1 (List.pairwise_map.2 ((List.pairwise_and_iff.2 ⟨hp, hnd⟩).imp_of_mem (fun {x y} hx hy h => ?_))) (fun z => ?_)
    · obtain ⟨h1, h2⟩ := h
      simp only [le, Bool.not_eq_true', decide_eq_false_iff_not] at h1
      have a1 := cmpC_anti (gi a x) (gi a y)
      by_cases h0 : cmpC (gi a x) (gi a y) = 0
      · exact absurd (hinj x y (List.mem_mergeSort.1 hx) (List.mem_mergeSort.1 hy) (cmpC_eq.1 h0)) h2
      · omega
    · rw [(sortW_spec a).2.1, List.mem_map]
      constructor
      · intro hz
        obtain ⟨j, hj, rfl⟩ := List.getElem_of_mem hz
        exact ⟨j, List.mem_mergeSort.2 (idx_mem.2 ⟨by omega, by omega⟩), gi_nat hj⟩
      · rintro ⟨x, hx, rfl⟩
        obtain ⟨h1, h2⟩ := idx_mem.1 (List.mem_mergeSort.1 hx)
        obtain ⟨p, rfl⟩ : ∃ p : Nat, x = p := ⟨x.toNat, by omega⟩
        rw [gi_nat (by omega)]; exact List.getElem_mem _
theorem vMap_parts (a b : List (List UInt8)) (y : List Int) (hy : ∀ i ∈ y, 0 ≤ i ∧ i < a.length) (hl : a.length = b.length) (hyl : y.length ≤ 10000000000) (K : List (List UInt8) → Option (List UInt8)) : ∀ (m i n : Nat) (out : List (List UInt8)), i + m = y.length → m < n → out.length + 2 * m ≤ 100000000000 →
    m_value_Map_L4 a b y K n out i = K (out ++ (y.drop i).flatMap (fun q => [gi a q, gi b q])) := by
  intro m
  induction m with
  | zero =>
    intro i n out hi hn ho
    obtain ⟨n, rfl⟩ : ∃ q, n = q + 1 := ⟨n - 1, by omega⟩
    rw [m_value_Map_L4, m_value_Map_B4, if_neg (by omega), List.drop_eq_nil_of_le (by omega)]; simp
  | succ m ih =>
    intro i n out hi hn ho
    obtain ⟨n, rfl⟩ : ∃ q, n = q + 1 := ⟨n - 1, by omega⟩
    have h1 : i < y.length := by omega
    obtain ⟨g0, g1⟩ := hy _ (List.getElem_mem h1)
    rw [m_value_Map_L4, m_value_Map_B4, if_pos (by omega), need_pos (by omega), gi_nat h1, need_pos ⟨g0, g1⟩, need_pos ⟨g0, by omega⟩, need_pos (by simp; omega), i64_succ (by omega), ih (i + 1) n _ (by omega) (by omega) (by simp; omega), List.drop_eq_getElem_cons h1, List.flatMap_cons, List.append_assoc]
theorem vMapW (a b : List (List UInt8)) (ha : a.length ≤ 10000000) (hxa : ∀ x ∈ a, x.length ≤ 1099511627776) (hxb : ∀ x ∈ b, x.length ≤ 1099511627776) : m_value_Map a b = some (mpW a b) := by
  have hFU := FU_ge
  unfold m_value_Map
  simp only [jn_eq]
  by_cases hl : a.length = b.length
  · rw [if_neg (fun h => h (by omega)), vSort a (by omega), bnd1_mk]
    by_cases hs : (sortW a).length = a.length
    · have hn := nodup_sort hs
      rw [if_neg (by simp; omega), need_pos (by omega)]
      have h1 := vMap_fill a (by omega) (fun (x5_j11 : List Int) => bnd1 (m_sortbyOn x5_j11 (fun (x0 : Int) (x1 : Int) => m_value_Map_1 x0 x1 a)) (fun y19 => m_value_Map_L4 a b y19 (fun (x7_j20 : List (List UInt8)) => bnd1 (m_value_compound 6 x7_j20) (fun y52 => some y52)) FU [] 0)) a.length 0 FU (by omega) (by omega)
      rw [show idx 0 = [] from rfl, List.nil_append, Int.natCast_zero] at h1
      obtain ⟨y, e1, e2, e3, e4⟩ := vMap_sorted hn (by omega)
      rw [Int.toNat_natCast, h1, e1, bnd1_mk]
      have h2 := vMap_parts a b y (fun i hi => (e2 i).1 hi) hl (by omega) (fun (x7_j20 : List (List UInt8)) => bnd1 (m_value_compound 6 x7_j20) (fun y52 => some y52)) y.length 0 FU [] (by omega) (by omega) (by simp; omega)
      rw [Int.natCast_zero, List.drop_zero, List.nil_append] at h2
      have e5 : y.flatMap (fun q => [gi a q, gi b q]) = mapW a b := by
        rw [mapW_flat, e4, List.flatMap_map]
        refine flatMap_congr' (fun q hq => ?_)
        obtain ⟨q1, q2⟩ := (e2 q).1 hq
        obtain ⟨p, rfl⟩ : ∃ p : Nat, q = p := ⟨q.toNat, by omega⟩
        rw [gi_nat (by omega), gi_nat (by omega), pick2_at a b hn hl p (by omega) (by omega)]
      have hc := vCompound 6 (mapW a b) (fun x hx => (mapW_mem hx).elim (hxa x) (hxb x))
      rw [show ((6 : UInt8).toNat : Int) = 6 from rfl] at hc
      rw [h2, e5, hc, bnd1_mk]
      congr 1
      by_cases hv : (∀ x ∈ a, Vd x) ∧ (∀ x ∈ b, Vd x)
      · rw [mpW_yes ⟨hl, hv.1, hv.2, hs⟩]
      · rw [mpW_no (fun h => hv ⟨h.2.1, h.2.2.1⟩), cmpd_no]
        intro hh
        have hm : ∀ i (h : i < a.length) (h' : i < b.length), a[i] ∈ mapW a b ∧ b[i] ∈ mapW a b := fun i h h' => by
          have hi : a[i] ∈ sortW a := ((sortW_spec a).2.1 _).2 (List.getElem_mem h)
          have hp := pick2_at a b hn hl i h h'
          rw [mapW_flat]
          exact ⟨List.mem_flatMap.2 ⟨_, hi, by rw [hp]; simp⟩, List.mem_flatMap.2 ⟨_, hi, by rw [hp]; simp⟩⟩
        refine hv ⟨fun x hx => ?_, fun x hx => ?_⟩
        · obtain ⟨i, h, rfl⟩ := List.getElem_of_mem hx
          exact hh.2.1 _ (hm i h (by omega)).1
        · obtain ⟨i, h, rfl⟩ := List.getElem_of_mem hx
          exact hh.2.1 _ (hm i (by omega) h).2
    · rw [if_pos (by simp; omega), mpW_no (fun h => hs h.2.2.2)]
  · rw [if_pos (fun h => hl (by omega)), if_pos trivial, mpW_no (fun h => hl h.1)]

/-! ### The other makers -/
theorem vTupleL (l : List (List UInt8)) (hx : ∀ x ∈ l, x.length ≤ 1099511627776) : m_value_Tuple l = some (cmpd 3 l) := by
  unfold m_value_Tuple
  have := vCompound 3 l hx
  rw [show ((3 : UInt8).toNat : Int) = 3 from rfl] at this
  rw [this, bnd1_mk]
theorem name_same (k : Int) : ∃ v, v.length ≤ 3 ∧ m_value_Name k = some v ∧ m_ref9_Name k = some v := by
  by_cases h : 0 ≤ k ∧ k ≤ 65535
  · exact ⟨nameW k, by simp [nameW], vNameW h.1 h.2, rNameW h.1 h.2⟩
  · refine ⟨[], by simp, ?_, ?_⟩
    · unfold m_value_Name
      simp only [jn_eq]
      by_cases h0 : k < 0
      · rw [if_pos h0, if_pos trivial]
      · rw [if_neg h0, if_pos (decide_eq_true (by omega))]
    · unfold m_ref9_Name
      simp only [jn_eq]
      by_cases h0 : k < 0
      · rw [if_pos h0, if_pos trivial]
      · rw [if_neg h0, if_pos (decide_eq_true (by omega))]
theorem dot_same (k : Int) (l : List (List UInt8)) (hl : l.length ≤ 1000000000) (hx : ∀ x ∈ l, x.length ≤ 1099511627776) : ∃ v, m_value_Dot k l = some v ∧ m_ref9_Dot k l = some v := by
  obtain ⟨nm, n0, n1, n2⟩ := name_same k
  unfold m_value_Dot m_ref9_Dot
  have h1 := vCompound 7 ([nm] ++ l) (fun x h => by
    rcases List.mem_cons.1 h with rfl | h
    · omega
    · exact hx x h)
  have h2 := rMake 7 (by decide) ([nm] ++ l) (by simp; omega)
  rw [show ((7 : UInt8).toNat : Int) = 7 from rfl] at h1 h2
  refine ⟨cmpd 7 ([nm] ++ l), ?_, ?_⟩
  · rw [n1, bnd1_mk, need_pos (by simp; omega), h1, bnd1_mk]
  · rw [n2, bnd1_mk, need_pos (by simp; omega), h2, bnd1_mk]
theorem rNumberedX (c : UInt8) (hc : 3 ≤ c.toNat ∧ c.toNat ≤ 9) (k : Int) (l : List (List UInt8)) (hl : l.length ≤ 1000000000) : m_ref9_Numbered (c.toNat : Int) k l = some (cmpd c (intW k :: l)) := by
  unfold m_ref9_Numbered
  rw [rInt, bnd1_mk, need_pos (by simp; omega), rMake c hc _ (by simp; omega), bnd1_mk]; rfl
theorem vFunL (k : Int) (l : List (List UInt8)) (hl : l.length ≤ 1000000000) (hx : ∀ x ∈ l, x.length ≤ 1099511627776) : m_value_Fun k l = some (cmpd 8 (intW k :: l)) := by
  unfold m_value_Fun
  have h1 := vCompound 8 ([intW k] ++ l) (fun x h => by
    rcases List.mem_cons.1 h with rfl | h
    · rw [intW_len]; omega
    · exact hx x h)
  rw [show ((8 : UInt8).toNat : Int) = 8 from rfl] at h1
  rw [vInt, bnd1_mk, need_pos (by simp; omega), h1, bnd1_mk]; rfl
theorem vProcL (k : Int) (l : List (List UInt8)) (hl : l.length ≤ 1000000000) (hx : ∀ x ∈ l, x.length ≤ 1099511627776) : m_value_Proc k l = some (cmpd 9 (intW k :: l)) := by
  unfold m_value_Proc
  have h1 := vCompound 9 ([intW k] ++ l) (fun x h => by
    rcases List.mem_cons.1 h with rfl | h
    · rw [intW_len]; omega
    · exact hx x h)
  rw [show ((9 : UInt8).toNat : Int) = 9 from rfl] at h1
  rw [vInt, bnd1_mk, need_pos (by simp; omega), h1, bnd1_mk]; rfl
end Go.Proofs.YtdppkpiagdaigaaGreatDoor
