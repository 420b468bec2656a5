/- More operations in the generator's calculus. -/
import Derived.Test.YtkplmgdmkfgjhaaCc
import Derived.Laws.BytesString
import Derived.Laws.MakeOwn
namespace Go.Proofs.Ytkplmgdmkfgjhaa
open Go.RowKit

abbrev AF0 : AF := fun _ => .top
theorem hmixP : (Try.prog).follows .mixedOrders = true := by kernel_rfl
abbrev bs (l : List UInt8) : ByteArray := ⟨l.toArray⟩
theorem OneC.nilc : OneC [.exact (.slice none 0 0)] := OneC.cons (fun M w u h => by rw [show u = _ from h]; rfl) OneC.nil

section
variable {P : Program} {E : Env} {N : Nat} {af : AF} {σ ρ : Items} {w : World}
variable {d : Option Tmp} {ty : TypeId} {pos : String} {after : Array Edge} {g : Option (Nat × Bool)} {t t' e : TypeId} {x y z : Operand} {K : AF → Prop}

/-! ### Rows that stay, known by several slots -/
theorem SubU.freezeT2 {α : Type} {n : Nat} {enc : α → List AV} {xs : List α} {v : Value} {s1 s2 : Tmp} (h1 : af s1 = .exact v) (h2 : af s2 = .exact v) (he : ∀ x, (enc x).length = n) :
    SubU af (vecT P t n enc v xs :: σ) ((af.put (some s1) (.row n enc xs)).put (some s2) (.row n enc xs)) σ := fun E n a w hh => by
  have a1 := SubU.freezeT (P := P) (t := t) (xs := xs) (σ := σ) h1 he E n a w hh
  have a2 := SubU.freezeT (P := P) (t := t) (xs := xs) (σ := σ) h2 he E n a w hh
  refine ⟨a1.tmps, a1.defers, a1.kept, a1.old, a1.good, fun u => ?_⟩
  by_cases hu : u = s2
  · subst hu; have := a2.fits u; rw [AF.put_same] at this ⊢; exact this
  · rw [AF.put_other _ _ hu]; exact a1.fits u
theorem SubU.freezeT3 {α : Type} {n : Nat} {enc : α → List AV} {xs : List α} {v : Value} {s1 s2 s3 : Tmp} (h1 : af s1 = .exact v) (h2 : af s2 = .exact v) (h3 : af s3 = .exact v) (he : ∀ x, (enc x).length = n) :
    SubU af (vecT P t n enc v xs :: σ) (((af.put (some s1) (.row n enc xs)).put (some s2) (.row n enc xs)).put (some s3) (.row n enc xs)) σ := fun E n a w hh => by
  have a1 := SubU.freezeT2 (P := P) (t := t) (xs := xs) (σ := σ) h1 h2 he E n a w hh
  have a2 := SubU.freezeT (P := P) (t := t) (xs := xs) (σ := σ) h3 he E n a w hh
  refine ⟨a1.tmps, a1.defers, a1.kept, a1.old, a1.good, fun u => ?_⟩
  by_cases hu : u = s3
  · subst hu; have := a2.fits u; rw [AF.put_same] at this ⊢; exact this
  · rw [AF.put_other _ _ hu]; exact a1.fits u

/-! ### Bytes -/
section
variable {a b : UInt8} {p : Prop} [Decidable p]
abbrev uA (a : UInt8) : AV := .exact (.int .u8 (UInt8.toNat a : Int))
theorem u8_add (a b : UInt8) : IntKind.u8.wrap ((a.toNat : Int) + (b.toNat : Int)) = ((a + b).toNat : Int) := by rw [wrap_u8n, UInt8.toNat_add]; omega
theorem u8_sub (a b : UInt8) : IntKind.u8.wrap ((a.toNat : Int) - (b.toNat : Int)) = ((a - b).toNat : Int) := by
  have := UInt8.toNat_lt a; have := UInt8.toNat_lt b
  rw [wrap_u8n, UInt8.toNat_sub]; omega
theorem u8_mul (a b : UInt8) : IntKind.u8.wrap ((a.toNat : Int) * (b.toNat : Int)) = ((a * b).toNat : Int) := by
  rw [wrap_u8n, UInt8.toNat_mul, ← Int.natCast_mul]; omega
theorem u8_bits (f : BitVec 8 → BitVec 8 → BitVec 8) (a b : UInt8) : IntKind.u8.wrap ((f (BitVec.ofInt IntKind.u8.bits (a.toNat : Int)) (BitVec.ofInt IntKind.u8.bits (b.toNat : Int))).toNat : Int) = ((UInt8.ofBitVec (f a.toBitVec b.toBitVec)).toNat : Int) := by
  have e : ∀ c : UInt8, BitVec.ofInt IntKind.u8.bits (c.toNat : Int) = c.toBitVec := fun c => by
    show BitVec.ofInt 8 _ = _
    apply BitVec.eq_of_toNat_eq
    have := UInt8.toNat_lt c
    simp <;> omega
  rw [e, e, wrap_u8n]
  have : (f a.toBitVec b.toBitVec).toNat < 256 := (f a.toBitVec b.toBitVec).isLt
  show _ = (((f a.toBitVec b.toBitVec).toNat : Nat) : Int)
  omega
theorem op_addU (hx : af.ev x = uA a) (hy : af.ev y = uA b) (hk : K (af.put d (uA (a + b)))) : opA P ⟨d, .binOp .add t x y t', ty, pos, after, g⟩ af K := op_add hx hy (u8_add a b) hk
theorem op_subU (hx : af.ev x = uA a) (hy : af.ev y = uA b) (hk : K (af.put d (uA (a - b)))) : opA P ⟨d, .binOp .sub t x y t', ty, pos, after, g⟩ af K := op_sub hx hy (u8_sub a b) hk
theorem op_mulU (hx : af.ev x = uA a) (hy : af.ev y = uA b) (hk : K (af.put d (uA (a * b)))) : opA P ⟨d, .binOp .mul t x y t', ty, pos, after, g⟩ af K := op_mul hx hy (u8_mul a b) hk
theorem op_andU (hx : af.ev x = uA a) (hy : af.ev y = uA b) (hk : K (af.put d (uA (a &&& b)))) : opA P ⟨d, .binOp .and t x y t', ty, pos, after, g⟩ af K := op_and hx hy (u8_bits (· &&& ·) a b) hk
theorem op_orU (hx : af.ev x = uA a) (hy : af.ev y = uA b) (hk : K (af.put d (uA (a ||| b)))) : opA P ⟨d, .binOp .or t x y t', ty, pos, after, g⟩ af K := op_or hx hy (u8_bits (· ||| ·) a b) hk
theorem op_xorU (hx : af.ev x = uA a) (hy : af.ev y = uA b) (hk : K (af.put d (uA (a ^^^ b)))) : opA P ⟨d, .binOp .xor t x y t', ty, pos, after, g⟩ af K := op_xor hx hy (u8_bits (· ^^^ ·) a b) hk
theorem op_quoU (hx : af.ev x = uA a) (hy : af.ev y = uA b) (hb : b ≠ 0) (hk : K (af.put d (uA (a / b)))) : opA P ⟨d, .binOp .quo t x y t', ty, pos, after, g⟩ af K := by
  refine op_quo hx hy (fun h => hb ?_) ?_ hk
  · exact UInt8.toNat_inj.1 (by simpa using h)
  · rw [UInt8.toNat_div, wrap_u8n]
    rw [Int.tdiv_eq_ediv_of_nonneg (by omega)]
    have h1 := UInt8.toNat_lt a
    have h2 : a.toNat / b.toNat ≤ a.toNat := Nat.div_le_self _ _
    have h3 : (a.toNat : Int) / (b.toNat : Int) = ((a.toNat / b.toNat : Nat) : Int) := by simp
    rw [h3]
    generalize a.toNat / b.toNat = q at h2 ⊢
    omega
theorem op_remU (hx : af.ev x = uA a) (hy : af.ev y = uA b) (hb : b ≠ 0) (hk : K (af.put d (uA (a % b)))) : opA P ⟨d, .binOp .rem t x y t', ty, pos, after, g⟩ af K := by
  refine op_rem hx hy (fun h => hb ?_) ?_ hk
  · exact UInt8.toNat_inj.1 (by simpa using h)
  · rw [UInt8.toNat_mod, Int.tmod_eq_emod_of_nonneg (by omega)]; simp
theorem dU (p q : Prop) [Decidable p] [Decidable q] (h : p ↔ q) : AV.exact (.bool (decide p)) = AV.exact (.bool (decide q)) := by rw [decide_eq_decide.2 h]
theorem op_lssU (hx : af.ev x = uA a) (hy : af.ev y = uA b) (hk : K (af.put d (.exact (.bool (decide (a < b)))))) : opA P ⟨d, .binOp .lss t x y t', ty, pos, after, g⟩ af K :=
  op_lss hx hy (by rw [dU _ (a < b) (by rw [UInt8.lt_iff_toNat_lt]; omega)]; exact hk)
theorem op_leqU (hx : af.ev x = uA a) (hy : af.ev y = uA b) (hk : K (af.put d (.exact (.bool (decide (a ≤ b)))))) : opA P ⟨d, .binOp .leq t x y t', ty, pos, after, g⟩ af K :=
  op_leq hx hy (by rw [dU _ (a ≤ b) (by rw [UInt8.le_iff_toNat_le]; omega)]; exact hk)
theorem op_gtrU (hx : af.ev x = uA a) (hy : af.ev y = uA b) (hk : K (af.put d (.exact (.bool (decide (b < a)))))) : opA P ⟨d, .binOp .gtr t x y t', ty, pos, after, g⟩ af K :=
  op_gtr hx hy (by rw [dU _ (b < a) (by rw [UInt8.lt_iff_toNat_lt]; omega)]; exact hk)
theorem op_geqU (hx : af.ev x = uA a) (hy : af.ev y = uA b) (hk : K (af.put d (.exact (.bool (decide (b ≤ a)))))) : opA P ⟨d, .binOp .geq t x y t', ty, pos, after, g⟩ af K :=
  op_geq hx hy (by rw [dU _ (b ≤ a) (by rw [UInt8.le_iff_toNat_le]; omega)]; exact hk)
theorem u8_eq (a b : UInt8) : (a.toNat : Int) = (b.toNat : Int) ↔ a = b := by rw [← UInt8.toNat_inj]; omega
theorem op_eqlU (hx : af.ev x = uA a) (hy : af.ev y = uA b) (hk : K (af.put d (.exact (.bool (decide (a = b)))))) : opA P ⟨d, .binOp .eql t x y t', ty, pos, after, g⟩ af K :=
  op_eql hx hy (by rw [dU _ (a = b) (u8_eq a b)]; exact hk)
theorem op_neqU (hx : af.ev x = uA a) (hy : af.ev y = uA b) (hk : K (af.put d (.exact (.bool (decide (¬ a = b)))))) : opA P ⟨d, .binOp .neq t x y t', ty, pos, after, g⟩ af K :=
  op_neq hx hy (by rw [dU _ (¬ a = b) (not_congr (u8_eq a b))]; exact hk)
end
theorem op_neg {k : IntKind} {a r : Int} (hx : af.ev x = .exact (.int k a)) (hr : k.wrap (- a) = r) (hk : K (af.put d (.exact (.int k r)))) : opA P ⟨d, .unOp .neg t x, ty, pos, after, g⟩ af K := by
  refine ⟨_, fun M w ev _ h => ?_, hk⟩
  have e1 := opnd h (x := x) (by simp [Op.operands]) hx
  simp [execOp, e1, Op.unary, Op.intArith, go_sem, UponQ]
  exact ⟨Keeps.refl _ _, by rw [← hr]; rfl⟩
theorem op_min {k : IntKind} {a b : Int} {ts : Array TypeId} (hx : af.ev x = .exact (.int k a)) (hy : af.ev y = .exact (.int k b)) (hk : K (af.put d (.exact (.int k (min a b))))) : opA P ⟨d, .call { callee := .builtin .min, args := #[x, y], argTypes := ts }, ty, pos, after, g⟩ af K := by
  refine ⟨_, fun M w ev _ h => ?_, hk⟩
  have e1 := opnd h (x := x) (by simp [Op.operands, Call.operands]) hx
  have e2 := opnd h (x := y) (by simp [Op.operands, Call.operands]) hy
  simp [execOp, resolve, invoke, builtin, Builtin.min_, Builtin.min2, e1, e2, go_sem, UponQ]
  refine ⟨Keeps.refl _ _, ?_⟩
  show _ = _
  congr 1
  split <;> omega
theorem op_max {k : IntKind} {a b : Int} {ts : Array TypeId} (hx : af.ev x = .exact (.int k a)) (hy : af.ev y = .exact (.int k b)) (hk : K (af.put d (.exact (.int k (max a b))))) : opA P ⟨d, .call { callee := .builtin .max, args := #[x, y], argTypes := ts }, ty, pos, after, g⟩ af K := by
  refine ⟨_, fun M w ev _ h => ?_, hk⟩
  have e1 := opnd h (x := x) (by simp [Op.operands, Call.operands]) hx
  have e2 := opnd h (x := y) (by simp [Op.operands, Call.operands]) hy
  simp [execOp, resolve, invoke, builtin, Builtin.max_, Builtin.max2, e1, e2, go_sem, UponQ]
  refine ⟨Keeps.refl _ _, ?_⟩
  show _ = _
  congr 1
  split <;> omega

/-! ### Strings -/
section
variable {a b : List UInt8}
theorem bs_inj : bs a = bs b ↔ a = b := ⟨fun h => by injection h with h; simpa using congrArg Array.toList h, fun h => by rw [h]⟩
theorem bs_toList : (bs a).toList = a := by rw [ByteArray.toList_eq]
theorem bs_size : (bs a).size = a.length := rfl
theorem op_eqlS (hx : af.ev x = .exact (.string (bs a))) (hy : af.ev y = .exact (.string (bs b))) (hk : K (af.put d (.exact (.bool (decide (a = b)))))) : opA P ⟨d, .binOp .eql t x y t', ty, pos, after, g⟩ af K :=
  op_eql_str hx hy (by rw [dU (bs a = bs b) (a = b) bs_inj]; exact hk)
theorem op_neqS (hx : af.ev x = .exact (.string (bs a))) (hy : af.ev y = .exact (.string (bs b))) (hk : K (af.put d (.exact (.bool (decide (¬ a = b)))))) : opA P ⟨d, .binOp .neq t x y t', ty, pos, after, g⟩ af K :=
  op_neq_str hx hy (by rw [dU (¬ bs a = bs b) (¬ a = b) (not_congr bs_inj)]; exact hk)
theorem ltB_eq : ∀ a b : List UInt8, Op.bytesLess a b = ltB a b
  | _, [] => by simp [Op.bytesLess, ltB]
  | [], _ :: _ => by simp [Op.bytesLess, ltB]
  | x :: a, y :: b => by simp [Op.bytesLess, ltB, ltB_eq a b]
theorem ltB_irr : ∀ a : List UInt8, ltB a a = false
  | [] => rfl
  | x :: a => by simp [ltB, ltB_irr a]
theorem ltB_total : ∀ a b : List UInt8, ltB a b = false → a = b ∨ ltB b a = true
  | [], [], _ => .inl rfl
  | _ :: _, [], _ => .inr rfl
  | [], _ :: _, h => by simp [ltB] at h
  | x :: a, y :: b, h => by
    simp only [ltB, Bool.or_eq_false_iff, Bool.and_eq_false_iff, decide_eq_false_iff_not, beq_eq_false_iff_ne] at h
    by_cases he : x = y
    · subst he
      rcases ltB_total a b (h.2.resolve_left (by simp)) with rfl | h'
      · exact .inl rfl
      · exact .inr (by simp [ltB, h'])
    · right
      simp only [ltB, Bool.or_eq_true, decide_eq_true_eq]
      left
      have h1 := h.1
      rw [UInt8.lt_iff_toNat_lt] at h1 ⊢
      have : x.toNat ≠ y.toNat := fun h => he (UInt8.toNat_inj.1 h)
      omega
theorem ltB_asymm : ∀ a b : List UInt8, ltB a b = true → ltB b a = false
  | [], [], h => by simp [ltB] at h
  | _ :: _, [], h => by simp [ltB] at h
  | [], _ :: _, _ => rfl
  | x :: a, y :: b, h => by
    simp only [ltB, Bool.or_eq_true, Bool.and_eq_true, decide_eq_true_eq, beq_iff_eq] at h
    simp only [ltB, Bool.or_eq_false_iff, Bool.and_eq_false_iff, decide_eq_false_iff_not, beq_eq_false_iff_ne]
    rcases h with h | ⟨rfl, h⟩
    · rw [UInt8.lt_iff_toNat_lt] at h
      refine ⟨by rw [UInt8.lt_iff_toNat_lt]; omega, .inl (fun e => ?_)⟩
      subst e; omega
    · exact ⟨by rw [UInt8.lt_iff_toNat_lt]; omega, .inr (ltB_asymm a b h)⟩
theorem leq_ltB (a b : List UInt8) : (ltB a b || a == b) = !ltB b a := by
  cases h1 : ltB a b with
  | true => simp [ltB_asymm a b h1]
  | false =>
    rcases ltB_total a b h1 with rfl | h2
    · simp [ltB_irr]
    · have : a ≠ b := by rintro rfl; rw [ltB_irr] at h2; cases h2
      simp [h2, this]
theorem run_str (op : BinOp) {ev : Operand → Value} (h1 : ev x = .string (bs a)) (h2 : ev y = .string (bs b)) (u : Bool) (h3 : (Op.stringOp op (bs a) (bs b)).run P w = .ok (.bool u) w) (hop : (op matches .lss | .leq | .gtr | .geq) = true) :
    (execOp ev ⟨d, .binOp op t x y t', ty, pos, after, g⟩).run P w = .ok (.value (.bool u)) w := by
  cases op <;> simp at hop <;> (unfold execOp; simp [eqGuard, h1, h2, binOp, h3, go_sem])
theorem op_lssS (hx : af.ev x = .exact (.string (bs a))) (hy : af.ev y = .exact (.string (bs b))) (hk : K (af.put d (.exact (.bool (decide (ltS a b)))))) : opA P ⟨d, .binOp .lss t x y t', ty, pos, after, g⟩ af K := by
  refine ⟨_, fun M w ev _ h => ?_, hk⟩
  rw [run_str .lss (opnd h (x := x) (by simp [Op.operands]) hx) (opnd h (x := y) (by simp [Op.operands]) hy) (decide (ltS a b)) (by simp [Op.stringOp, bs_toList, ltB_eq, go_sem]) rfl]
  exact ⟨Keeps.refl _ _, rfl⟩
theorem op_gtrS (hx : af.ev x = .exact (.string (bs a))) (hy : af.ev y = .exact (.string (bs b))) (hk : K (af.put d (.exact (.bool (decide (ltS b a)))))) : opA P ⟨d, .binOp .gtr t x y t', ty, pos, after, g⟩ af K := by
  refine ⟨_, fun M w ev _ h => ?_, hk⟩
  rw [run_str .gtr (opnd h (x := x) (by simp [Op.operands]) hx) (opnd h (x := y) (by simp [Op.operands]) hy) (decide (ltS b a)) (by simp only [Op.stringOp, bs_toList, ltB_eq, leq_ltB]; simp [go_sem]) rfl]
  exact ⟨Keeps.refl _ _, rfl⟩
theorem op_leqS (hx : af.ev x = .exact (.string (bs a))) (hy : af.ev y = .exact (.string (bs b))) (hk : K (af.put d (.exact (.bool (decide (¬ ltS b a)))))) : opA P ⟨d, .binOp .leq t x y t', ty, pos, after, g⟩ af K := by
  refine ⟨_, fun M w ev _ h => ?_, hk⟩
  rw [run_str .leq (opnd h (x := x) (by simp [Op.operands]) hx) (opnd h (x := y) (by simp [Op.operands]) hy) (decide (¬ ltS b a)) (by simp only [Op.stringOp, bs_toList, ltB_eq, leq_ltB]; simp [go_sem]) rfl]
  exact ⟨Keeps.refl _ _, rfl⟩
theorem op_geqS (hx : af.ev x = .exact (.string (bs a))) (hy : af.ev y = .exact (.string (bs b))) (hk : K (af.put d (.exact (.bool (decide (¬ ltS a b)))))) : opA P ⟨d, .binOp .geq t x y t', ty, pos, after, g⟩ af K := by
  refine ⟨_, fun M w ev _ h => ?_, hk⟩
  rw [run_str .geq (opnd h (x := x) (by simp [Op.operands]) hx) (opnd h (x := y) (by simp [Op.operands]) hy) (decide (¬ ltS a b)) (by simp only [Op.stringOp, bs_toList, ltB_eq]; simp [go_sem]) rfl]
  exact ⟨Keeps.refl _ _, rfl⟩
theorem op_addS (hl : a.length + b.length ≤ 9223372036854775807) (hx : af.ev x = .exact (.string (bs a))) (hy : af.ev y = .exact (.string (bs b))) (hk : K (af.put d (.exact (.string (bs (a ++ b)))))) : opA P ⟨d, .binOp .add t x y t', ty, pos, after, g⟩ af K := by
  refine ⟨_, fun M w ev _ h => ?_, hk⟩
  have e1 := opnd h (x := x) (by simp [Op.operands]) hx
  have e2 := opnd h (x := y) (by simp [Op.operands]) hy
  have e3 : bs a ++ bs b = bs (a ++ b) := by
    apply ByteArray.ext
    rw [ByteArray.data_append]
    simp
  have hm : IntKind.i64.max = 9223372036854775807 := by decide
  have hr : (execOp ev ⟨d, .binOp .add t x y t', ty, pos, after, g⟩).run P w = .ok (.value (.string (bs (a ++ b)))) w := by
    unfold execOp
    simp only [eqGuard, e1, e2, binOp, Op.stringOp, hm, bs_size]
    rw [if_neg (show ¬ (((a.length + b.length : Nat) : Int) > 9223372036854775807) by omega), e3]
    simp [go_sem]
  rw [hr]
  exact ⟨Keeps.refl _ _, rfl⟩
theorem op_lenS (hB : isStrB P t = true) (hx : af.ev x = .exact (.string (bs a))) (hk : K (af.put d (.exact (.int .i64 (a.length : Int))))) :
    opA P ⟨d, .call { callee := .builtin .len, args := #[x], argTypes := #[t] }, ty, pos, after, g⟩ af K := op_len_str hB hx hk
theorem op_index_str {k : IntKind} {i : Int} (hB : isStrB P t = true) (hx : af.ev x = .exact (.string (bs a))) (hy : af.ev y = .exact (.int k i)) (h0 : 0 ≤ i) (h1 : i < a.length) (hk : K (af.put d (uA (gi a i)))) : opA P ⟨d, .index t x y, ty, pos, after, g⟩ af K := by
  refine ⟨_, fun M w ev _ h => ?_, hk⟩
  have e1 := opnd h (x := x) (by simp [Op.operands]) hx
  have e2 := opnd h (x := y) (by simp [Op.operands]) hy
  have hu := isStrB_spec hB
  have e3 : (bs a)[i.toNat]? = some (gi a i) := by
    have := gi_get h0 h1
    have hlt : i.toNat < a.length := by omega
    rw [getElem?_pos (bs a) i.toNat (by rw [bs_size]; exact hlt)]
    rw [List.getElem?_eq_getElem hlt] at this
    injection this with this
    rw [← this]
    rfl
  have hr : (execOp ev ⟨d, .index t x y, ty, pos, after, g⟩).run P w = .ok (.value (.int .u8 (UInt8.toNat (gi a i) : Int))) w := by
    unfold execOp Instr.index
    simp only [asIntOf, e1, e2, Sem.run_bind, run_under hu, Result.andThen_ok, Sem.run_pure, if_pos h0, e3]
  rw [hr]
  exact ⟨Keeps.refl _ _, rfl⟩
theorem op_convS (hB : (isStrB P t && isStrB P t') = true) (hx : af.ev x = .exact (.string (bs a))) (hk : K (af.put d (.exact (.string (bs a))))) : opA P ⟨d, .convert t t' x, ty, pos, after, g⟩ af K := by
  simp only [Bool.and_eq_true] at hB
  refine ⟨_, fun M w ev _ h => ?_, hk⟩
  have e1 := opnd h (x := x) (by simp [Op.operands]) hx
  simp [execOp, e1, convert, run_under (isStrB_spec hB.1), run_under (isStrB_spec hB.2), go_sem, UponQ]
  exact ⟨Keeps.refl _ _, rfl⟩
/-- From a slice of bytes to a string. -/
def bytesB (P : Program) (t t' : TypeId) : Bool := (match P.underlying t with | some (.slice e) => (match P.underlying e with | some (.int .u8) => true | _ => false) | _ => false) && isStrB P t'
theorem bytesB_spec (h : bytesB P t t' = true) : ∃ e, P.underlying t = some (.slice e) ∧ P.underlying e = some (.int .u8) ∧ P.underlying t' = some .string := by
  simp only [bytesB, Bool.and_eq_true] at h
  obtain ⟨h1, h2⟩ := h
  split at h1
  · rename_i e hu
    split at h1
    · rename_i hu'; exact ⟨e, hu, hu', isStrB_spec h2⟩
    · cases h1
  · cases h1
theorem foldl_push : ∀ (l : List UInt8) (r : ByteArray), (l.map fun c => (c.toNat : Int)).foldl (fun r n => r.push (UInt8.ofNat n.toNat)) r = ⟨r.data ++ l.toArray⟩
  | [], r => by simp
  | c :: l, r => by
    simp only [List.map_cons, List.foldl_cons]
    rw [foldl_push l]
    have : UInt8.ofNat ((c.toNat : Int)).toNat = c := by simp
    rw [this]
    apply ByteArray.ext
    simp [ByteArray.push]
theorem run_bytes {b off cap : Nat} (hB : bytesB P t t' = true) (hc : ∀ j u, a[j]? = some u → w.cell? ⟨b, off + j, none⟩ = some (.int .u8 (UInt8.toNat u : Int))) : (convert t t' (.slice (some ⟨b, off, none⟩) a.length cap)).run P w = .ok (.string (bs a)) w := by
  obtain ⟨e, hu, hu', hs⟩ := bytesB_spec hB
  have h3 := run_cells (P := P) (w := w) (b := b) a.length off 0 (a.map fun c => Value.int .u8 (c.toNat : Int)) #[] (fun j hj => ⟨.int .u8 (UInt8.toNat a[j] : Int), by simp [hj], by
    have := hc j a[j] (List.getElem?_eq_getElem hj); simpa using this⟩) (by simp)
  have h4 := run_bytesToString (P := P) w ⟨b, off, none⟩ a.length cap (a.map fun c => (c.toNat : Int)) (by unfold loadCells; rw [h3]; simp [Function.comp_def])
  rw [foldl_push] at h4
  unfold convert
  simp only [Sem.run_bind, run_under hu, run_under hs, Result.andThen_ok, run_under hu', h4]
  simp
theorem run_bytes0 {cap : Nat} (hB : bytesB P t t' = true) : (convert t t' (.slice none 0 cap)).run P w = .ok (.string (bs [])) w := by
  obtain ⟨e, hu, hu', hs⟩ := bytesB_spec hB
  unfold convert
  simp only [Sem.run_bind, run_under hu, run_under hs, Result.andThen_ok, run_under hu', Conv.bytesToString, Sem.run_pure]
  rfl
abbrev cU8 (x : UInt8) : List AV := [uA x]
theorem run_bytes_any {A : Option Addr} {cap : Nat} (hB : bytesB P t t' = true) (hA : a ≠ [] → ∃ b off, A = some ⟨b, off, none⟩ ∧ ∀ j u, a[j]? = some u → w.cell? ⟨b, off + j, none⟩ = some (.int .u8 (UInt8.toNat u : Int))) :
    (convert t t' (.slice A a.length cap)).run P w = .ok (.string (bs a)) w := by
  by_cases hne : a = []
  · subst hne
    obtain ⟨e, hu, hu', hs⟩ := bytesB_spec hB
    cases A with
    | none => exact run_bytes0 hB
    | some q =>
      have h4 := run_bytesToString (P := P) w q 0 cap [] (by simp [loadCells, loadCellsFrom, go_sem])
      unfold convert
      simp only [Sem.run_bind, run_under hu, run_under hs, Result.andThen_ok, run_under hu', List.length_nil, h4]
      rfl
  · obtain ⟨b, off, rfl, hc⟩ := hA hne
    exact run_bytes hB hc
theorem op_bytesS {enc : UInt8 → List AV} (henc : enc = cU8) (hB : bytesB P t t' = true) (hx : af.ev x = .row 1 enc a) (hk : K (af.put d (.exact (.string (bs a))))) : opA P ⟨d, .convert t t' x, ty, pos, after, g⟩ af K := by
  subst henc
  refine ⟨_, fun M w ev _ h => ?_, hk⟩
  obtain ⟨A, c, e1, _, _, e4⟩ := opnd_p h (x := x) (by simp [Op.operands]) hx
  have hr : (execOp ev ⟨d, .convert t t' x, ty, pos, after, g⟩).run P w = .ok (.value (.string (bs a))) w := by
    unfold execOp
    simp only [e1, Sem.run_bind, run_bytes_any (a := a) (A := A) (cap := c) hB (fun hne => by
      obtain ⟨b, off, rfl, _, _, hc⟩ := e4 hne
      exact ⟨b, off, rfl, fun j u hj => by
        obtain ⟨_, h2⟩ := hc j u hj
        obtain ⟨v, h3, h4⟩ := h2 0 _ rfl
        obtain rfl : v = .int .u8 (UInt8.toNat u : Int) := h4
        simpa using h3⟩), Result.andThen_ok, Sem.run_pure]
  rw [hr]
  exact ⟨Keeps.refl _ _, rfl⟩
end
end
end Go.Proofs.Ytkplmgdmkfgjhaa
