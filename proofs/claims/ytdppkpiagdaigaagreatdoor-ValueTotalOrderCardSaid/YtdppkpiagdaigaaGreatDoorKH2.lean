/- Integers as values; sets of them; the check of awake. -/
import Derived.Test.YtdppkpiagdaigaaGreatDoorKH1
import Derived.Test.YtdppkpiagdaigaaGreatDoorKH0
namespace Go.Proofs.YtdppkpiagdaigaaGreatDoor
attribute [local irreducible] FU

/-- The last k bytes of w. -/
def byD (w : Nat) : Nat → List UInt8
  | 0 => []
  | k + 1 => u8i ((w / 2 ^ (8 * k) : Nat) : Int) :: byD w k
theorem byD_len (w : Nat) : ∀ k, (byD w k).length = k
  | 0 => rfl
  | k + 1 => by simp [byD, byD_len w k]
theorem beNat_cons (b : UInt8) (l : List UInt8) : beNat (b :: l) = b.toNat * 256 ^ l.length + beNat l := by
  have key : ∀ (l : List UInt8) (a : Nat), l.foldl (fun n b => n * 256 + b.toNat) a = a * 256 ^ l.length + beNat l := by
    intro l
    induction l with
    | nil => intro a; simp [beNat]
    | cons x l ih =>
      intro a
      have e : beNat (x :: l) = x.toNat * 256 ^ l.length + beNat l := by
        have := ih (0 * 256 + x.toNat)
        simpa [beNat] using this
      rw [List.foldl_cons, ih, e, List.length_cons, Nat.pow_succ, Nat.add_mul, Nat.mul_assoc, Nat.mul_comm 256]
      omega
  have := key l b.toNat
  simpa [beNat] using this
theorem pow8 (k : Nat) : 256 ^ k = 2 ^ (8 * k) := by rw [Nat.pow_mul]
theorem beNat_byD (w : Nat) : ∀ k, beNat (byD w k) = w % 2 ^ (8 * k)
  | 0 => by simp [byD, beNat, Nat.mod_one]
  | k + 1 => by
    rw [byD, beNat_cons, byD_len, u8i_nat, beNat_byD w k, pow8, show 8 * (k + 1) = 8 * k + 8 by omega, Nat.pow_add, Nat.mod_mul, Nat.mul_comm, Nat.add_comm, Nat.mul_comm]
def wOf (n : Int) : Nat := (n % 18446744073709551616).toNat
theorem u64_mod (x : Int) : IntKind.u64.wrap x = (wOf x : Int) := by rw [wrap_u64]; unfold wOf; omega
theorem fdiv_pow (w k : Nat) (hk : 8 * k ≤ 64) : Int.fdiv (w : Int) (2 ^ min (Int.toNat ((8 * k : Nat) : Int)) IntKind.u64.bits) = ((w / 2 ^ (8 * k) : Nat) : Int) := by
  rw [Int.toNat_natCast, show IntKind.u64.bits = 64 from rfl, Nat.min_eq_left hk]
  have : (2 : Int) ^ (8 * k) = ((2 ^ (8 * k) : Nat) : Int) := by simp
  rw [this, Int.fdiv_eq_ediv_of_nonneg _ (Int.natCast_nonneg _)]
  rfl
noncomputable def intW (n : Int) : List UInt8 := 1 :: byD (wOf n) 8
theorem vAppend64 (w : Nat) (K : List UInt8 → Option (List UInt8)) : ∀ (k n : Nat) (out : List UInt8), k ≤ 8 → k < n → out.length + k ≤ 100 → m_value_append64_L2 w K n out (8 * (k : Int) - 8) = K (out ++ byD w k) := by
  intro k
  induction k with
  | zero =>
    intro n out hk hn ho
    obtain ⟨n, rfl⟩ : ∃ q, n = q + 1 := ⟨n - 1, by omega⟩
    rw [m_value_append64_L2, m_value_append64_B2, if_neg (by omega)]
    simp [byD]
  | succ k ih =>
    intro n out hk hn ho
    obtain ⟨n, rfl⟩ : ∃ q, n = q + 1 := ⟨n - 1, by omega⟩
    have e : 8 * ((k + 1 : Nat) : Int) - 8 = ((8 * k : Nat) : Int) := by omega
    have e2 : i64 (((8 * k : Nat) : Int) - 8) = 8 * (k : Int) - 8 := by rw [i64_id (by omega)]; omega
    rw [e, m_value_append64_L2, m_value_append64_B2, if_pos (by omega), need_pos (by omega), fdiv_pow w k (by omega), need_pos (by simp; omega), e2, ih n _ (by omega) (by omega) (by simp; omega)]
    simp [byD]
theorem vInt (n : Int) : m_value_Int n = some (intW n) := by
  have hFU := FU_ge
  unfold m_value_Int m_value_append64
  have h := vAppend64 (wOf n) (fun x => some x) 8 FU [1] (by omega) (by omega) (by simp)
  rw [show 8 * ((8 : Nat) : Int) - 8 = 56 from rfl] at h
  rw [u64_mod, jn_eq]
  rw [h, bnd1_mk]; rfl
theorem set_byD (w k : Nat) (hk : k < 8) : List.set (List.replicate (8 - k) (0 : UInt8) ++ byD w k) (7 - k) (u8i ((w / 2 ^ (8 * k) : Nat) : Int)) = List.replicate (8 - (k + 1)) (0 : UInt8) ++ byD w (k + 1) := by
  rw [show 8 - k = (8 - (k + 1)) + 1 by omega, List.replicate_succ', List.append_assoc, List.set_append_right _ _ (by simp)]
  have : 7 - k - (List.replicate (8 - (k + 1)) (0 : UInt8)).length = 0 := by simp
  rw [this]; rfl
theorem rEight_loop (n0 : Int) (K : List UInt8 → Option (List UInt8)) : ∀ (m k n : Nat), k + m = 8 → m < n → m_ref9_eight_L2 n0 K n (List.replicate (8 - k) (0 : UInt8) ++ byD (wOf n0) k) k = K (byD (wOf n0) 8) := by
  intro m
  induction m with
  | zero =>
    intro k n hk hn
    obtain ⟨n, rfl⟩ : ∃ q, n = q + 1 := ⟨n - 1, by omega⟩
    obtain rfl : k = 8 := by omega
    rw [m_ref9_eight_L2, m_ref9_eight_B2, if_neg (by omega)]
    simp
  | succ m ih =>
    intro k n hk hn
    obtain ⟨n, rfl⟩ : ∃ q, n = q + 1 := ⟨n - 1, by omega⟩
    have e1 : i64 (8 * (k : Int)) = ((8 * k : Nat) : Int) := by rw [i64_id (by omega)]; omega
    have e2 : i64 (7 - (k : Int)) = ((7 - k : Nat) : Int) := by rw [i64_id (by omega)]; omega
    rw [m_ref9_eight_L2, m_ref9_eight_B2, if_pos (by omega), e1, u64_nat (by omega), need_pos (by omega), e2, need_pos (by simp [byD_len]; omega), Int.toNat_natCast (7 - k), u64_mod, fdiv_pow _ k (by omega), i64_succ (by omega)]
    rw [set_byD (wOf n0) k (by omega)]
    exact ih (k + 1) n (by omega) (by omega)
theorem rInt (n : Int) : m_ref9_Int n = some (intW n) := by
  have hFU := FU_ge
  unfold m_ref9_Int m_ref9_eight
  have h := rEight_loop n (fun x => some x) 8 0 FU (by omega) (by omega)
  rw [Int.natCast_zero] at h
  rw [need_pos (by omega), jn_eq]
  rw [show List.replicate (Int.toNat 8) (0 : UInt8) = List.replicate (8 - 0) (0 : UInt8) ++ byD (wOf n) 0 from rfl, h, bnd1_mk, need_pos (by simp [byD_len])]
  rfl
theorem intW_IsV (n : Int) (k : Nat) : IsV (k + 1) (intW n) := .int k _ (byD_len _ 8)
theorem intW_len (n : Int) : (intW n).length = 9 := by simp [intW, byD_len]
theorem numV_intW {n : Int} (h : -9223372036854775808 ≤ n ∧ n ≤ 9223372036854775807) : numV (intW n) = n := by
  unfold numV intW
  rw [List.drop_succ_cons, List.drop_zero, beNat_byD]
  have e : wOf n % 2 ^ (8 * 8) = wOf n := Nat.mod_eq_of_lt (by unfold wOf; omega)
  rw [e]
  unfold wOf i64
  rw [show (((n % 18446744073709551616).toNat : Nat) : Int) = n % 18446744073709551616 by omega]
  unfold IntKind.wrap IntKind.bits IntKind.signed
  simp; split <;> omega
theorem intW_inj {a b : Int} (ha : -9223372036854775808 ≤ a ∧ a ≤ 9223372036854775807) (hb : -9223372036854775808 ≤ b ∧ b ≤ 9223372036854775807) (h : intW a = intW b) : a = b := by
  rw [← numV_intW ha, ← numV_intW hb, h]

/-! ### Sets that are valid -/
theorem SLC_ascB : ∀ {ps : List (List UInt8)}, (∀ p ∈ ps, Vd p) → SLC ps → ascB ps = true
  | [], _, _ => rfl
  | [_], _, _ => rfl
  | x :: y :: t, hv, h => by
    obtain ⟨h1, h2⟩ := List.pairwise_cons.1 h
    have := h1 y (by simp)
    rw [cmpC_val (hv x (by simp)) (hv y (by simp))] at this
    rw [ascB, SLC_ascB (fun p hp => hv p (by simp [hp])) h2, decide_eq_true this]; rfl
/-- A set of valid values that is neither too deep nor too long. -/
theorem set_ok {l : List (List UInt8)} {k : Nat} (hk : k ≤ 31) (hv : ∀ x ∈ l, IsV k x) (hl : (sortW l).length ≤ 65535) (hs : 3 + (sortW l).flatten.length ≤ 131072) :
    setW l = raw 5 (sortW l) ∧ IsV (k + 1) (setW l) ∧ prtW (setW l) = sortW l ∧ isSet (setW l) = true ∧ setW l ≠ [] ∧ (setW l).length ≤ 131072 := by
  have hm := (sortW_spec l).2.1
  have hV : ∀ x ∈ sortW l, Vd x := fun x hx => ⟨(hv x ((hm x).1 hx)).le (by omega), by have := flat_mem hx; omega⟩
  have hI : IsV (k + 1) (raw 5 (sortW l)) := .comp k 5 _ _ (sortW l) (by decide) (raw_count hl) (fun x hx => hv x ((hm x).1 hx)) (by
    have := SLC_ascB hV (sortW_spec l).1
    simpa [formedB] using this)
  have hVr : Vd (raw 5 (sortW l)) := ⟨hI.le (by omega), by rw [raw_len]; omega⟩
  have he : setW l = raw 5 (sortW l) := cmpd_yes ⟨hl, hV, hVr⟩
  have hvb := vldB_iff.2 hVr
  rw [he]
  refine ⟨rfl, hI, ?_, ?_, by simp [raw], hVr.2⟩
  · unfold prtW; rw [if_pos hvb]; exact prt_raw (by decide) hl hV
  · unfold isSet kindW; rw [if_pos hvb]; rfl
/-! ### The subsets are different -/
/-! ### Ranges -/
end Go.Proofs.YtdppkpiagdaigaaGreatDoor
/- The generator of values always returns. -/
namespace Go.Proofs.YtdppkpiagdaigaaGreatDoor
attribute [local irreducible] FU

/-- The state of the choices. -/
def GS (l : List Int) (i : Int) : Prop := 0 ≤ i ∧ i ≤ l.length ∧ l.length ≤ 9223372036854775807
theorem gNext {l : List Int} {i : Int} (h : GS l i) {n : Int} (h0 : 0 < n) (h1 : n ≤ 1000000) : ∃ y i', m_gen_Choices_Next (l, i) n = some (y, (l, i')) ∧ GS l i' ∧ 0 ≤ y ∧ y < n := by
  obtain ⟨g1, g2, g3⟩ := h
  unfold m_gen_Choices_Next
  simp only []
  by_cases hc : (List.length l : Int) ≤ i
  · rw [if_pos hc]; exact ⟨0, i, rfl, ⟨g1, g2, g3⟩, by omega, h0⟩
  · have e : i64 (i64 (i + 1) - 1) = i := by rw [i64_id (x := i + 1) (by omega), i64_id (by omega)]; omega
    have en : IntKind.u64.wrap n = n := by rw [wrap_u64]; omega
    unfold m_help_Mod
    rw [if_neg hc, e, need_pos (by omega), en, need_pos (by omega), bnd1_mk, i64_id (x := i + 1) (by omega)]
    have ha := wrap_u64 (gi l i)
    have h3 : 0 ≤ Int.tmod (IntKind.u64.wrap (gi l i)) n := Int.tmod_nonneg _ (by omega)
    have h4 : Int.tmod (IntKind.u64.wrap (gi l i)) n < n := Int.tmod_lt_of_pos _ h0
    exact ⟨_, _, rfl, ⟨by omega, by omega, g3⟩, by rw [i64_id (by omega)]; exact h3, by rw [i64_id (by omega)]; exact h4⟩
theorem gNumber {l : List Int} {i : Int} (h : GS l i) : ∃ v i', m_gen_Choices_Number (l, i) = some (v, (l, i')) ∧ GS l i' := by
  unfold m_gen_Choices_Number
  obtain ⟨y, i1, e1, g1, y0, y1⟩ := gNext h (n := 9) (by omega) (by omega)
  obtain ⟨a, ia, ea, ga, _⟩ := gNext g1 (n := 2) (by omega) (by omega)
  obtain ⟨b, ib, eb, gb, _⟩ := gNext g1 (n := 7) (by omega) (by omega)
  simp only [e1, bnd1_mk, ea, eb]
  split
  · exact ⟨_, _, rfl, g1⟩
  · split
    · exact ⟨_, _, rfl, ga⟩
    · split
      · exact ⟨_, _, rfl, ga⟩
      · exact ⟨_, _, rfl, gb⟩
/-- Some value, and the choices go on. -/
def GV (f : List Int × Int → Option (List UInt8 × (List Int × Int))) : Prop := ∀ (l : List Int) (i : Int), GS l i → ∃ v i', f (l, i) = some (v, (l, i')) ∧ GS l i'
theorem gValues_loop (self : List Int × Int → Int → Option (List UInt8 × (List Int × Int))) (d : Int) (hs : GV (fun s => self s d)) (K : List Int → Int → List (List UInt8) → Option (List (List UInt8) × (List Int × Int))) : ∀ (m n : Nat) (l : List Int) (i : Int) (out : List (List UInt8)), m < n → GS l i → out.length + m ≤ 1000 →
    ∃ i' out', m_gen_Choices_Values_L2 self d K n l i out m = K l i' out' ∧ GS l i' ∧ out'.length = out.length + m := by
  intro m
  induction m with
  | zero =>
    intro n l i out hn hg ho
    obtain ⟨n, rfl⟩ : ∃ q, n = q + 1 := ⟨n - 1, by omega⟩
    exact ⟨i, out, by rw [m_gen_Choices_Values_L2, m_gen_Choices_Values_B2, if_neg (by omega)], hg, rfl⟩
  | succ m ih =>
    intro n l i out hn hg ho
    obtain ⟨n, rfl⟩ : ∃ q, n = q + 1 := ⟨n - 1, by omega⟩
    obtain ⟨v, i1, e1, g1⟩ := hs l i hg
    have e2 : i64 (((m + 1 : Nat) : Int) - 1) = (m : Int) := by rw [i64_id (by omega)]; omega
    obtain ⟨i', out', h1, h2, h3⟩ := ih n l i1 (out ++ [v]) (by omega) g1 (by simp; omega)
    refine ⟨i', out', ?_, h2, by rw [h3]; simp; omega⟩
    simp only [] at e1
    rw [m_gen_Choices_Values_L2, m_gen_Choices_Values_B2, if_pos (by omega), e1, bnd1_mk]
    simp only []
    rw [need_pos (by simp; omega), e2, h1]
theorem gValues (self : List Int × Int → Int → Option (List UInt8 × (List Int × Int))) (d : Int) (hs : GV (fun s => self s d)) {l : List Int} {i : Int} (h : GS l i) {most : Int} (h0 : 0 < most) (h1 : most ≤ 100) :
    ∃ L i', m_gen_Choices_Values self (l, i) d most = some (L, (l, i')) ∧ GS l i' ∧ (L.length : Int) < most := by
  have hFU := FU_ge
  unfold m_gen_Choices_Values
  rw [jn_eq]
  obtain ⟨y, i1, e1, g1, y0, y1⟩ := gNext h (n := most) (by omega) (by omega)
  obtain ⟨m, rfl⟩ : ∃ m : Nat, y = m := ⟨y.toNat, by omega⟩
  obtain ⟨i', L, h1, h2, h3⟩ := gValues_loop self d hs (fun x0_0_j1 x0_1_j1 x3_j1 => some (x3_j1, (x0_0_j1, x0_1_j1))) m FU l i1 [] (by omega) g1 (by simp; omega)
  simp only []
  rw [e1, bnd1_mk]
  simp only []
  rw [h1]
  exact ⟨L, i', rfl, h2, by simp at h3; omega⟩

/-! ### What is made always comes back -/
theorem rName (k : Int) : ∃ v, m_ref9_Name k = some v := by
  unfold m_ref9_Name
  simp only [jn_eq]
  unfold m_ref9_two
  split
  · exact ⟨_, rfl⟩
  · split
    · exact ⟨_, rfl⟩
    · rw [bnd1_mk, need_pos (by simp)]; exact ⟨_, rfl⟩
theorem rBool (b : Bool) : ∃ v, m_ref9_Bool b = some v := by
  unfold m_ref9_Bool; split <;> exact ⟨_, rfl⟩
theorem rDot (k : Int) (l : List (List UInt8)) (hl : l.length ≤ 1000) : ∃ v, m_ref9_Dot k l = some v := by
  unfold m_ref9_Dot
  obtain ⟨v, hv⟩ := rName k
  have := rMake 7 (by decide) ([v] ++ l) (by simp; omega)
  rw [show ((7 : UInt8).toNat : Int) = 7 from rfl] at this
  rw [hv, bnd1_mk, need_pos (by simp; omega), this, bnd1_mk]; exact ⟨_, rfl⟩
theorem rNumbered (c : UInt8) (hc : 3 ≤ c.toNat ∧ c.toNat ≤ 9) (k : Int) (l : List (List UInt8)) (hl : l.length ≤ 1000) : ∃ v, m_ref9_Numbered (c.toNat : Int) k l = some v := by
  unfold m_ref9_Numbered
  rw [rInt, bnd1_mk, need_pos (by simp; omega), rMake c hc _ (by simp; omega), bnd1_mk]; exact ⟨_, rfl⟩
theorem rMap_in (a b y : List (List UInt8)) (hab : a.length = b.length) (ha : a.length ≤ 1000) (q : Nat) (hq : q < y.length) (K : List (List UInt8) → Option (List UInt8)) : ∀ (m i n : Nat) (out : List (List UInt8)), i + m = a.length → m < n → out.length + 2 * m ≤ 10000000 →
    ∃ out', m_ref9_Map_L14 a b y q K n out i = K out' ∧ out'.length ≤ out.length + 2 * m ∧ ∀ x ∈ out', x ∈ out ∨ x ∈ y ∨ x ∈ b := by
  intro m
  induction m with
  | zero =>
    intro i n out hi hn ho
    obtain ⟨n, rfl⟩ : ∃ q, n = q + 1 := ⟨n - 1, by omega⟩
    exact ⟨out, by rw [m_ref9_Map_L14, m_ref9_Map_B14, if_neg (by omega)], by omega, fun x h => .inl h⟩
  | succ m ih =>
    intro i n out hi hn ho
    obtain ⟨n, rfl⟩ : ∃ q, n = q + 1 := ⟨n - 1, by omega⟩
    have h1 : i < a.length := by omega
    have h2 : i < b.length := by omega
    rw [m_ref9_Map_L14, m_ref9_Map_B14, if_pos (by omega)]
    simp only [jn_eq]
    rw [need_pos (by omega), need_pos (by omega), need_pos (by omega), need_pos (by omega), need_pos (by simp; omega), gi_nat h1, gi_nat h2, gi_nat hq, i64_succ (by omega)]
    split
    · obtain ⟨o, g1, g2, g3⟩ := ih (i + 1) n (out ++ [y[q], b[i]]) (by omega) (by omega) (by simp; omega)
      refine ⟨o, g1, by simp at g2; omega, fun x hx => ?_⟩
      rcases g3 x hx with h | h | h
      · simp only [List.mem_append, List.mem_cons, List.not_mem_nil, or_false] at h
        rcases h with h | h | h
        · exact .inl h
        · exact .inr (.inl (h ▸ List.getElem_mem _))
        · exact .inr (.inr (h ▸ List.getElem_mem _))
      · exact .inr (.inl h)
      · exact .inr (.inr h)
    · obtain ⟨o, g1, g2, g3⟩ := ih (i + 1) n out (by omega) (by omega) (by omega)
      exact ⟨o, g1, by omega, g3⟩
theorem rMap_out (a b y : List (List UInt8)) (hab : a.length = b.length) (ha : a.length ≤ 1000) (hy : y.length ≤ 1000) (K : List (List UInt8) → Option (List UInt8)) : ∀ (m i n : Nat) (out : List (List UInt8)), i + m = y.length → m < n → out.length + 2000 * m ≤ 10000000 → (∀ x ∈ out, x ∈ y ∨ x ∈ b) →
    ∃ out', m_ref9_Map_L8 a b y K n out i = K out' ∧ ∀ x ∈ out', x ∈ y ∨ x ∈ b := by
  have hFU := FU_ge
  intro m
  induction m with
  | zero =>
    intro i n out hi hn ho hx
    obtain ⟨n, rfl⟩ : ∃ q, n = q + 1 := ⟨n - 1, by omega⟩
    exact ⟨out, by rw [m_ref9_Map_L8, m_ref9_Map_B8, if_neg (by omega)], hx⟩
  | succ m ih =>
    intro i n out hi hn ho hx
    obtain ⟨n, rfl⟩ : ∃ q, n = q + 1 := ⟨n - 1, by omega⟩
    rw [m_ref9_Map_L8, m_ref9_Map_B8, if_pos (by omega)]
    simp only [jn_eq]
    obtain ⟨o, g1, g2, g3⟩ := rMap_in a b y hab ha i (by omega) (fun x6_j420 => m_ref9_Map_L8 a b y K n x6_j420 (i64 ((i : Int) + 1))) a.length 0 FU out (by omega) (by omega) (by omega)
    rw [Int.natCast_zero] at g1
    rw [g1, i64_succ (by omega)]
    refine ih (i + 1) n o (by omega) (by omega) (by omega) (fun x h => ?_)
    rcases g3 x h with h | h
    · exact hx x h
    · exact h
theorem rMap (a b : List (List UInt8)) (ha : a.length ≤ 1000) (hb : b.length ≤ 1000) : ∃ v, m_ref9_Map a b = some v := by
  have hFU := FU_ge
  unfold m_ref9_Map
  simp only [jn_eq]
  by_cases hl : a.length = b.length
  · rw [if_neg (fun h => h (by omega)), rAll a (by omega), bnd1_mk, rAll b (by omega)]
    simp only [bnd1_mk, rSort a (show a.length ≤ 10000000 by omega)]
    cases h1 : a.all vldB with
    | false => simp
    | true =>
      rw [if_neg (by simp)]
      cases h2 : b.all vldB with
      | false => simp
      | true =>
        rw [if_neg (by simp)]
        split
        · exact ⟨_, rfl⟩
        · have hm := (sortW_spec a).2.1
          have hlen := (sortW_spec a).2.2
          obtain ⟨o, g1, g2⟩ := rMap_out a b (sortW a) hl ha (by omega) (fun x6_j13 => bnd1 (m_ref9_compound 6 x6_j13) (fun y500 => some y500)) (sortW a).length 0 FU [] (by omega) (by omega) (by simp; omega) (by simp)
          rw [Int.natCast_zero] at g1
          have := rCompound 6 (by decide) o (fun x hx => by
            rcases g2 x hx with h | h
            · exact vldB_iff.1 (List.all_eq_true.1 h1 x ((hm x).1 h))
            · exact vldB_iff.1 (List.all_eq_true.1 h2 x h))
          rw [show ((6 : UInt8).toNat : Int) = 6 from rfl] at this
          rw [g1, this, bnd1_mk]; exact ⟨_, rfl⟩
  · rw [if_pos (fun h => hl (by omega)), if_pos trivial]; exact ⟨_, rfl⟩
theorem gVal_loop (self : List Int × Int → Int → Option (List UInt8 × (List Int × Int))) (d : Int) (hs : GV (fun s => self s (i64 (d - 1)))) (y : List (List UInt8)) (hy : y.length ≤ 1000) (K : List Int → Int → List (List UInt8) → Option (List UInt8 × (List Int × Int))) : ∀ (m q n : Nat) (l : List Int) (i : Int) (out : List (List UInt8)), q + m = y.length → m < n → GS l i → out.length + m ≤ 1000 →
    ∃ i' out', m_gen_Choices_Value_L4 self d y K n l i out q = K l i' out' ∧ GS l i' ∧ out'.length = out.length + m := by
  intro m
  induction m with
  | zero =>
    intro q n l i out hq hn hg ho
    obtain ⟨n, rfl⟩ : ∃ q, n = q + 1 := ⟨n - 1, by omega⟩
    exact ⟨i, out, by rw [m_gen_Choices_Value_L4, m_gen_Choices_Value_B4, if_neg (by omega)], hg, rfl⟩
  | succ m ih =>
    intro q n l i out hq hn hg ho
    obtain ⟨n, rfl⟩ : ∃ q, n = q + 1 := ⟨n - 1, by omega⟩
    obtain ⟨v, i1, e1, g1⟩ := hs l i hg
    obtain ⟨i', out', h1, h2, h3⟩ := ih (q + 1) n l i1 (out ++ [v]) (by omega) (by omega) g1 (by simp; omega)
    refine ⟨i', out', ?_, h2, by rw [h3]; simp; omega⟩
    simp only [] at e1
    rw [m_gen_Choices_Value_L4, m_gen_Choices_Value_B4, if_pos (by omega), e1, bnd1_mk]
    simp only []
    rw [need_pos (by simp; omega), i64_succ (by omega), h1]
theorem gValue_F (self : List Int × Int → Int → Option (List UInt8 × (List Int × Int))) (d : Int) (hd : d ≤ 1 ∨ (1 < d ∧ d ≤ 1000 ∧ GV (fun s => self s (d - 1)))) : GV (fun s => m_gen_Choices_Value_F self s d) := by
  have hFU := FU_ge
  intro l i h
  show ∃ v i', m_gen_Choices_Value_F self (l, i) d = some (v, (l, i')) ∧ GS l i'
  unfold m_gen_Choices_Value_F
  obtain ⟨y, i1, e1, g1, y0, y1⟩ := gNext h (n := 9) (by omega) (by omega)
  rw [e1, bnd1_mk]
  simp only [jn_eq]
  -- the leaves
  have leaf : ∀ (x : Int), x = 0 ∨ x = 1 ∨ x = 2 → ∀ R3 R4 R5 R6 R7 R8 : Option (List UInt8 × (List Int × Int)), ∃ v i', (if x = 1 then (bnd1 (m_gen_Choices_Next (l, i1) 2) (fun y45 => bnd1 (m_ref9_Bool (decide (y45.1 = 1))) (fun y46 => some (y46, (y45.2.1, y45.2.2))))) else (if x = 2 then (bnd1 (m_gen_Choices_Next (l, i1) 4) (fun y47 => bnd1 (m_ref9_Name y47.1) (fun y48 => some (y48, (y47.2.1, y47.2.2))))) else (if x = 3 then R3 else (if x = 4 then R4 else (if x = 5 then R5 else (if x = 6 then R6 else (if x = 7 then R7 else (if x = 8 then R8 else (bnd1 (m_gen_Choices_Number (l, i1)) (fun y85 => bnd1 (m_ref9_Int y85.1) (fun y86 => some (y86, (y85.2.1, y85.2.2)))))))))))) ) = some (v, (l, i')) ∧ GS l i' := by
    intro x hx R3 R4 R5 R6 R7 R8
    rcases hx with rfl | rfl | rfl
    · obtain ⟨v, i2, e2, g2⟩ := gNumber g1
      simp only [e2, bnd1_mk, rInt]
      exact ⟨_, _, rfl, g2⟩
    · obtain ⟨v, i2, e2, g2, _⟩ := gNext g1 (n := 2) (by omega) (by omega)
      obtain ⟨w, hw⟩ := rBool (decide (v = 1))
      simp only [e2, bnd1_mk, hw]
      exact ⟨_, _, rfl, g2⟩
    · obtain ⟨v, i2, e2, g2, _⟩ := gNext g1 (n := 4) (by omega) (by omega)
      obtain ⟨w, hw⟩ := rName v
      simp only [e2, bnd1_mk, hw]
      exact ⟨_, _, rfl, g2⟩
  by_cases hd1 : d ≤ 1
  · rw [if_pos hd1]
    have t1 : 0 ≤ Int.tmod y 3 := Int.tmod_nonneg _ y0
    have t2 : Int.tmod y 3 < 3 := Int.tmod_lt_of_pos _ (by omega)
    exact leaf (Int.tmod y 3) (by omega) _ _ _ _ _ _
  · obtain ⟨_, hd2, hs⟩ := hd.resolve_left hd1
    rw [if_neg hd1]
    have ed : i64 (d - 1) = d - 1 := i64_id (by omega)
    by_cases hy : y = 0 ∨ y = 1 ∨ y = 2
    · exact leaf y hy _ _ _ _ _ _
    · rw [if_neg (by omega), if_neg (by omega), ed]
      rcases (show y = 3 ∨ y = 4 ∨ y = 5 ∨ y = 6 ∨ y = 7 ∨ y = 8 by omega) with rfl | rfl | rfl | rfl | rfl | rfl
      · obtain ⟨v, i2, e2, g2⟩ := hs l i1 g1
        obtain ⟨w, i3, e3, g3⟩ := hs l i2 g2
        have := rMake 3 (by decide) [v, w] (by simp)
        rw [show ((3 : UInt8).toNat : Int) = 3 from rfl] at this
        simp only [] at e2 e3
        simp only [if_true, e2, bnd1_mk, e3, this]
        exact ⟨_, _, rfl, g3⟩
      · obtain ⟨L, i2, e2, g2, hl⟩ := gValues self (d - 1) hs g1 (most := 4) (by omega) (by omega)
        have := rMake 4 (by decide) L (by omega)
        rw [show ((4 : UInt8).toNat : Int) = 4 from rfl] at this
        rw [if_neg (by omega), if_pos rfl, e2, bnd1_mk, this, bnd1_mk]
        exact ⟨_, _, rfl, g2⟩
      · obtain ⟨L, i2, e2, g2, hl⟩ := gValues self (d - 1) hs g1 (most := 4) (by omega) (by omega)
        rw [if_neg (by omega), if_neg (by omega), if_pos rfl, e2, bnd1_mk, rSet L (by omega), bnd1_mk]
        exact ⟨_, _, rfl, g2⟩
      · obtain ⟨k, i2, e2, g2, _⟩ := gNext g1 (n := 3) (by omega) (by omega)
        obtain ⟨L, i3, e3, g3, hl⟩ := gValues self (d - 1) hs g2 (most := 3) (by omega) (by omega)
        obtain ⟨v, hv⟩ := rDot k L (by omega)
        rw [if_neg (by omega), if_neg (by omega), if_neg (by omega), if_pos rfl, e2, bnd1_mk]
        simp only []
        rw [e3, bnd1_mk, hv, bnd1_mk]
        exact ⟨_, _, rfl, g3⟩
      · obtain ⟨L, i2, e2, g2, hl⟩ := gValues self (d - 1) hs g1 (most := 3) (by omega) (by omega)
        have hsl := (sortW_spec L).2.2
        rw [if_neg (by omega), if_neg (by omega), if_neg (by omega), if_neg (by omega), if_pos rfl, e2, bnd1_mk, rSort L (by omega), bnd1_mk]
        obtain ⟨i3, O, h1, h2, h3⟩ := gVal_loop self d (by rw [ed]; exact hs) (sortW L) (by omega) (fun x0_0_j61 x0_1_j61 x7_j61 => bnd1 (m_ref9_Map (sortW L) x7_j61) (fun y81 => some (y81, (x0_0_j61, x0_1_j61)))) (sortW L).length 0 FU l i2 [] (by omega) (by omega) g2 (by simp; omega)
        rw [Int.natCast_zero] at h1
        obtain ⟨v, hv⟩ := rMap (sortW L) O (by omega) (by simp at h3; omega)
        simp only []
        rw [h1, hv, bnd1_mk]
        exact ⟨_, _, rfl, h2⟩
      · obtain ⟨k, i2, e2, g2, _⟩ := gNext g1 (n := 3) (by omega) (by omega)
        obtain ⟨L, i3, e3, g3, hl⟩ := gValues self (d - 1) hs g2 (most := 2) (by omega) (by omega)
        obtain ⟨v, hv⟩ := rNumbered 8 (by decide) k L (by omega)
        rw [show ((8 : UInt8).toNat : Int) = 8 from rfl] at hv
        rw [if_neg (by omega), if_neg (by omega), if_neg (by omega), if_neg (by omega), if_neg (by omega), if_pos rfl, e2, bnd1_mk]
        simp only []
        rw [e3, bnd1_mk, hv, bnd1_mk]
        exact ⟨_, _, rfl, g3⟩
theorem gValue_S : ∀ (k : Nat), k ≤ 1000 → ∀ n, k < n → GV (fun s => m_gen_Choices_Value_S n s (k : Int))
  | 0, _, n, hn => by
    obtain ⟨n, rfl⟩ : ∃ q, n = q + 1 := ⟨n - 1, by omega⟩
    exact gValue_F _ _ (.inl (by omega))
  | k + 1, hk, n, hn => by
    obtain ⟨n, rfl⟩ : ∃ q, n = q + 1 := ⟨n - 1, by omega⟩
    have ih := gValue_S k (by omega) n (by omega)
    refine gValue_F _ _ ?_
    by_cases h : k = 0
    · exact .inl (by omega)
    · refine .inr ⟨by omega, by omega, ?_⟩
      rw [show ((k + 1 : Nat) : Int) - 1 = (k : Int) by omega]; exact ih
theorem gValue (k : Nat) (hk : k ≤ 1000) : GV (fun s => m_gen_Choices_Value s (k : Int)) := by
  have hFU := FU_ge
  exact gValue_S k hk FU (by omega)
end Go.Proofs.YtdppkpiagdaigaaGreatDoor
/- The check of layer 9: text, kind and order of one set. -/
namespace Go.Proofs.YtdppkpiagdaigaaGreatDoor
attribute [local irreducible] FU

theorem cmpC_int {a b : Int} (ha : -9223372036854775808 ≤ a ∧ a ≤ 9223372036854775807) (hb : -9223372036854775808 ≤ b ∧ b ≤ 9223372036854775807) : cmpC (intW a) (intW b) = sgn a b := by
  have va : Vd (intW a) := ⟨intW_IsV a 31, by rw [intW_len]; omega⟩
  have vb : Vd (intW b) := ⟨intW_IsV b 31, by rw [intW_len]; omega⟩
  rw [cmpC_val va vb]
  unfold cmpW
  show (if intW a = intW b then 0 else if gi (intW a) 0 ≠ gi (intW b) 0 then sgnB (gi (intW a) 0) (gi (intW b) 0) else if gi (intW a) 0 = 1 then sgn (numV (intW a)) (numV (intW b)) else _) = _
  by_cases h : intW a = intW b
  · rw [if_pos h, intW_inj ha hb h]; unfold sgn; simp
  · rw [if_neg h, if_neg (fun hn => hn rfl), if_pos (show gi (intW a) 0 = 1 from rfl), numV_intW ha, numV_intW hb]
theorem sort12 : sortW [intW 2, intW 1, intW 2] = [intW 1, intW 2] := by
  refine slc_ext (sortW_spec _).1 ?_ (fun x => ?_)
  · refine List.pairwise_cons.2 ⟨fun y hy => ?_, by simp⟩
    rw [List.mem_singleton] at hy
    subst hy
    rw [cmpC_int (by omega) (by omega)]; decide
  · rw [(sortW_spec _).2.1]; simp; exact fun h => .inr h
theorem text_small (i : Int) (n : Nat) (h : i = 1 ∨ i = 2) (names : List (List UInt8)) : m_value_text_S (n + 1) (intW i) names = some (if i = 1 then [49] else [50]) := by
  have hi : numV (intW i) = i := numV_intW (by omega)
  rw [m_value_text_S]
  unfold m_value_text_F
  rw [need_pos (by rw [intW_len]; omega), if_pos (show gi (intW i) 0 = 1 from rfl), vInteger _ (by rw [intW_len]; omega), bnd1_mk]
  have e : i64 (beNat (((intW i).drop 1).take 8)) = i := by
    rw [List.take_of_length_le (by rw [List.length_drop, intW_len]; omega)]; exact hi
  rw [e]
  rcases h with rfl | rfl
  · unfold m_strconv_FormatInt m_internal_strconv_FormatInt m_internal_strconv_small
    simp only [jn_eq]
    rfl
  · unfold m_strconv_FormatInt m_internal_strconv_FormatInt m_internal_strconv_small
    simp only [jn_eq]
    rfl
theorem set12 : setW [intW 2, intW 1, intW 2] = raw 5 [intW 1, intW 2] ∧ prtW (setW [intW 2, intW 1, intW 2]) = [intW 1, intW 2] ∧ isSet (setW [intW 2, intW 1, intW 2]) = true ∧ vldB (setW [intW 2, intW 1, intW 2]) = true := by
  have hl : ∀ x ∈ [intW 2, intW 1, intW 2], IsV 1 x := fun x hx => by
    simp at hx
    rcases hx with rfl | rfl | rfl <;> exact intW_IsV _ 0
  obtain ⟨a1, a2, a3, a4, _, a6⟩ := set_ok (l := [intW 2, intW 1, intW 2]) (k := 1) (by omega) hl (by rw [sort12]; simp) (by rw [sort12]; simp [intW_len])
  rw [sort12] at a1 a3
  exact ⟨a1, a3, a4, vldB_iff.2 ⟨a2.le (by omega), a6⟩⟩
theorem text_12 : m_value_text (raw 5 [intW 1, intW 2]) [] = some [123, 49, 44, 32, 50, 125] := by
  obtain ⟨n, hn⟩ := FU_k 2 (by omega)
  obtain ⟨q, hq⟩ := FU_k 3 (by omega)
  unfold m_value_text
  rw [hn]
  have h1 := text_small 1 n (.inl rfl) []
  have h2 := text_small 2 n (.inr rfl) []
  rw [if_pos rfl] at h1
  rw [if_neg (by decide)] at h2
  rw [m_value_text_S]
  generalize m_value_text_S (n + 1) = T at h1 h2
  have hp : m_value_parts (raw 5 [intW 1, intW 2]) = some [intW 1, intW 2] := vParts (k := 1) (fun p hp => by
    simp at hp
    rcases hp with rfl | rfl
    · exact (intW_IsV 1 0).sh
    · exact (intW_IsV 2 0).sh) (by omega) (by simp [intW_len])
  have g0 : gi (raw 5 [intW 1, intW 2]) 0 = 5 := rfl
  unfold m_value_text_F
  rw [need_pos (by rw [raw_len]; omega), g0, if_neg (by decide), if_neg (by decide), if_neg (by decide), jn_eq, hp, bnd1_mk]
  rw [hq, m_value_text_L2, m_value_text_B2, if_pos (by simp), need_pos (by simp), gi2_0, h1, bnd1_mk, need_pos (by simp), i64_id (by omega), m_value_text_L2, m_value_text_B2, if_pos (by simp), need_pos (by simp), show gi [intW 1, intW 2] (0 + 1) = intW 2 from rfl, h2, bnd1_mk, need_pos (by simp), i64_id (by omega), m_value_text_L2, m_value_text_B2, if_neg (by simp)]
  have hj : m_join ([] ++ [[49]] ++ [[50]]) [44, 32] = some [49, 44, 32, 50] := by
    unfold m_join
    rw [show Lib.join ([] ++ [[49]] ++ [[50]]) [44, 32] = ([49, 44, 32, 50] : List UInt8) from rfl, need_pos (by simp)]
  rw [hj, bnd1_mk, need_pos (by rw [raw_len]; omega), if_neg (by decide), if_pos rfl, need_pos (by simp), need_pos (by simp)]
  rfl
theorem awake9_true : m_law9_awake = some true := by
  obtain ⟨s1, s2, s3, s4⟩ := set12
  unfold m_law9_awake
  have hk : kindW (setW [intW 2, intW 1, intW 2]) = 5 := of_decide_eq_true s3
  have hT : m_value_Text (setW [intW 2, intW 1, intW 2]) [] = some [123, 49, 44, 32, 50, 125] := by
    unfold m_value_Text
    rw [vValid, s4, bnd1_mk, if_neg (by simp), s1, text_12, bnd1_mk]
  simp only [vInt, bnd1_mk, vSet [intW 2, intW 1, intW 2] (by simp) (fun x hx => by
    simp at hx
    rcases hx with rfl | rfl | rfl <;> rw [intW_len] <;> omega), jn_eq, vKind, hk, vPartsW, s2, hT, vCompareW]
  rw [if_pos (show intW 1 = [1, 0, 0, 0, 0, 0, 0, 0, 1] from rfl), if_pos trivial, if_pos (by simp), if_pos trivial, cmpC_int (by omega) (by omega)]
  rfl
end Go.Proofs.YtdppkpiagdaigaaGreatDoor
/- Comparing is a total order. -/
namespace Go.Proofs.YtdppkpiagdaigaaGreatDoor
attribute [local irreducible] FU

theorem sgn_bd (x y : Int) : -1 ≤ sgn x y ∧ sgn x y ≤ 1 := by unfold sgn; split; omega; split <;> omega
theorem sgnB_bd (x y : UInt8) : -1 ≤ sgnB x y ∧ sgnB x y ≤ 1 := by unfold sgnB; split; omega; split <;> omega
theorem lex_bd {α : Type} {c : α → α → Int} (h : ∀ x y, -1 ≤ c x y ∧ c x y ≤ 1) : ∀ a b : List α, -1 ≤ lexCmp c a b ∧ lexCmp c a b ≤ 1
  | [], [] => by simp [lexCmp]
  | [], _ :: _ => by simp [lexCmp]
  | _ :: _, [] => by simp [lexCmp]
  | x :: xs, y :: ys => by
    rw [lexCmp]
    split
    · exact h x y
    · exact lex_bd h xs ys
theorem cmpV_bd : ∀ (k : Nat) (a b : List UInt8), -1 ≤ cmpV k a b ∧ cmpV k a b ≤ 1
  | 0, _, _ => by simp [cmpV]
  | k + 1, a, b => by
    rw [cmpV]
    split
    · omega
    · split
      · exact sgnB_bd _ _
      · split
        · exact sgn_bd _ _
        · split
          · exact lex_bd sgnB_bd _ _
          · exact lex_bd (cmpV_bd k) _ _
theorem cmpC_bd (a b : List UInt8) : -1 ≤ cmpC a b ∧ cmpC a b ≤ 1 := by
  unfold cmpC
  split
  · exact cmpV_bd 32 a b
  · split
    · omega
    · split
      · omega
      · exact lex_bd sgnB_bd a b
theorem cmpC_le {a b c : List UInt8} (h1 : cmpC a b ≤ 0) (h2 : cmpC b c ≤ 0) : ¬ 0 < cmpC a c := by
  by_cases e1 : cmpC a b = 0
  · rw [cmpC_eq] at e1; subst e1; omega
  · by_cases e2 : cmpC b c = 0
    · rw [cmpC_eq] at e2; subst e2; omega
    · have := cmpC_trans (a := a) (b := b) (c := c) (by omega) (by omega); omega
section
variable (a3 : List UInt8) (y3 y6 y9 : (List UInt8) × ((List Int) × Int))
theorem vto86 (i j : Nat) (hi : i < 4) (hj : j < 4) (K : Unit → Option Bool) : ∀ (m k n : Nat), k + m = 4 → m < n → m_law9_ValueTotalOrder_L86 a3 y3 y6 y9 i j K n k = K () := by
  have hl : (List.length [y3.1, y6.1, y9.1, a3] : Int) = 4 := rfl
  intro m
  induction m with
  | zero =>
    intro k n hk hn
    obtain ⟨n, rfl⟩ : ∃ q, n = q + 1 := ⟨n - 1, by omega⟩
    rw [m_law9_ValueTotalOrder_L86, m_law9_ValueTotalOrder_B86, hl, if_neg (by omega)]
  | succ m ih =>
    intro k n hk hn
    obtain ⟨n, rfl⟩ : ∃ q, n = q + 1 := ⟨n - 1, by omega⟩
    have hr := ih (k + 1) n (by omega) (by omega)
    rw [m_law9_ValueTotalOrder_L86, m_law9_ValueTotalOrder_B86, hl, if_pos (by omega), need_pos (by omega), i64_succ (by omega), hr]
    generalize gi [y3.1, y6.1, y9.1, a3] (i : Int) = a
    generalize gi [y3.1, y6.1, y9.1, a3] (j : Int) = b
    generalize gi [y3.1, y6.1, y9.1, a3] (k : Int) = c
    simp only [jn_eq, vCompareW, bnd1_mk]
    by_cases h1 : cmpC a b ≤ 0
    · rw [if_pos h1]
      by_cases h2 : cmpC b c ≤ 0
      · rw [if_pos h2, if_neg (fun h => cmpC_le h1 h2 (of_decide_eq_true h))]
      · rw [if_neg h2]; simp
    · rw [if_neg h1]; simp
theorem vto80 (i : Nat) (hi : i < 4) (K : Unit → Option Bool) : ∀ (m j n : Nat), j + m = 4 → m < n → m_law9_ValueTotalOrder_L80 a3 y3 y6 y9 i K n j = K () := by
  have hFU := FU_ge
  have hl : (List.length [y3.1, y6.1, y9.1, a3] : Int) = 4 := rfl
  intro m
  induction m with
  | zero =>
    intro j n hk hn
    obtain ⟨n, rfl⟩ : ∃ q, n = q + 1 := ⟨n - 1, by omega⟩
    rw [m_law9_ValueTotalOrder_L80, m_law9_ValueTotalOrder_B80, hl, if_neg (by omega)]
  | succ m ih =>
    intro j n hk hn
    obtain ⟨n, rfl⟩ : ∃ q, n = q + 1 := ⟨n - 1, by omega⟩
    have hr := ih (j + 1) n (by omega) (by omega)
    have h86 := vto86 a3 y3 y6 y9 i j hi (by omega) (fun _ => m_law9_ValueTotalOrder_L80 a3 y3 y6 y9 i K n (i64 ((j : Int) + 1))) 4 0 FU (by omega) (by omega)
    rw [Int.natCast_zero] at h86
    rw [m_law9_ValueTotalOrder_L80, m_law9_ValueTotalOrder_B80, hl, if_pos (by omega)]
    simp only [jn_eq, vCompareW, bnd1_mk]
    rw [need_pos (by omega), h86, i64_succ (by omega), hr]
    generalize gi [y3.1, y6.1, y9.1, a3] (i : Int) = a
    generalize gi [y3.1, y6.1, y9.1, a3] (j : Int) = b
    have ha := cmpC_anti a b
    have hb := cmpC_bd a b
    have e : cmpC a b = i64 (-cmpC b a) := by rw [ha, i64_id (by omega)]; omega
    have e2 : decide (cmpC a b = 0) = decide (a = b) := by
      by_cases h : a = b
      · rw [decide_eq_true h, decide_eq_true (cmpC_eq.2 h)]
      · rw [decide_eq_false h, decide_eq_false (fun hh => h (cmpC_eq.1 hh))]
    rw [if_neg (fun h => h e), e2]
    simp
theorem vto44 (K : Unit → Option Bool) : ∀ (m i n : Nat), i + m = 4 → m < n → m_law9_ValueTotalOrder_L44 a3 y3 y6 y9 K n i = K () := by
  have hFU := FU_ge
  have hl : (List.length [y3.1, y6.1, y9.1, a3] : Int) = 4 := rfl
  intro m
  induction m with
  | zero =>
    intro i n hk hn
    obtain ⟨n, rfl⟩ : ∃ q, n = q + 1 := ⟨n - 1, by omega⟩
    rw [m_law9_ValueTotalOrder_L44, m_law9_ValueTotalOrder_B44, hl, if_neg (by omega)]
  | succ m ih =>
    intro i n hk hn
    obtain ⟨n, rfl⟩ : ∃ q, n = q + 1 := ⟨n - 1, by omega⟩
    have hr := ih (i + 1) n (by omega) (by omega)
    have h80 := vto80 a3 y3 y6 y9 i (by omega) (fun _ => m_law9_ValueTotalOrder_L44 a3 y3 y6 y9 K n (i64 ((i : Int) + 1))) 4 0 FU (by omega) (by omega)
    rw [Int.natCast_zero] at h80
    rw [m_law9_ValueTotalOrder_L44, m_law9_ValueTotalOrder_B44, hl, if_pos (by omega)]
    simp only [jn_eq]
    rw [need_pos (by omega), h80, i64_succ (by omega), hr]
end
theorem gs_new9 {c : List Int} (hc : c.length ≤ maxLen ∧ ∀ x ∈ c, (Lit.int .i64 x).wf = true) : GS c 0 := ⟨by omega, by omega, by have := hc.1; unfold maxLen at this; omega⟩
theorem valueTotalOrder_true (a b c : List Int) (raw : List UInt8) (ha : a.length ≤ maxLen ∧ ∀ x ∈ a, (Lit.int .i64 x).wf = true) (hb : b.length ≤ maxLen ∧ ∀ x ∈ b, (Lit.int .i64 x).wf = true) (hc : c.length ≤ maxLen ∧ ∀ x ∈ c, (Lit.int .i64 x).wf = true) (_ : raw.length ≤ maxLen) : m_law9_ValueTotalOrder a b c raw = some true := by
  have hFU := FU_ge
  unfold m_law9_ValueTotalOrder m_gen_New
  obtain ⟨v1, i1, e1, _⟩ := gValue 3 (by omega) a 0 (gs_new9 ha)
  obtain ⟨v2, i2, e2, _⟩ := gValue 3 (by omega) b 0 (gs_new9 hb)
  obtain ⟨v3, i3, e3, _⟩ := gValue 3 (by omega) c 0 (gs_new9 hc)
  simp only [] at e1 e2 e3
  rw [show ((3 : Nat) : Int) = 3 from rfl] at e1 e2 e3
  simp only [bnd1_mk, e1, e2, e3, jn_eq, awake9_true]
  have h := vto44 raw (v1, (a, i1)) (v2, (b, i2)) (v3, (c, i3)) (fun _ => some true) 4 0 FU (by omega) (by omega)
  rw [Int.natCast_zero] at h
  exact h
end Go.Proofs.YtdppkpiagdaigaaGreatDoor
