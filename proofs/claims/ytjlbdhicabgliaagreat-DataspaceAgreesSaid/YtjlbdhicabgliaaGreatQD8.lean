/- Structs of four fields opened. -/
import Derived.Test.YtjlbdhicabgliaaGreatQD4
import Derived.Test.YtjlbdhicabgliaaGreatQD2
import Derived.Test.YtjlbdhicabgliaaGreatQD7
namespace Go.Proofs.YtjlbdhicabgliaaGreat
open Go.ChangeShapes Go.WideShapes Go.ChangeAt Go.RowKit Go.Deep

section
variable {P : Program} {t e : TypeId} {α β γ δ : Type}
theorem opens_struct4 {f0 f1 f2 f3 : Field} {n0 n1 n2 n3 : Nat} {a : α → List AV} {b : β → List AV} {c : γ → List AV} {d : δ → List AV} {sa : α → Nat} {sb : β → Nat} {sc : γ → Nat} {sd : δ → Nat} {qa : α → Prop} {qb : β → Prop} {qc : γ → Prop} {qd : δ → Prop} (ht : P.underlying t = some (.struct #[f0, f1, f2, f3]))
  (hc : P.cellsOf t = n0 + n1 + n2 + n3) (o0 : f0.offset = 0) (o1 : f1.offset = n0) (o2 : f2.offset = n0 + n1) (o3 : f3.offset = n0 + n1 + n2) (c0 : P.cellsOf f0.type = n0) (c1 : P.cellsOf f1.type = n1) (c2 : P.cellsOf f2.type = n2) (c3 : P.cellsOf f3.type = n3) (h0 : Opens P f0.type n0 a sa qa) (h1 : Opens P f1.type n1 b sb qb) (h2 : Opens P f2.type n2 c sc qc) (h3 : Opens P f3.type n3 d sd qd) :
  Opens P t (n0 + n1 + n2 + n3) (fun x : α × β × γ × δ => a x.1 ++ (b x.2.1 ++ (c x.2.2.1 ++ d x.2.2.2))) (fun x => sa x.1 + sb x.2.1 + sc x.2.2.1 + sd x.2.2.2) (fun x => qa x.1 ∧ qb x.2.1 ∧ qc x.2.2.1 ∧ qd x.2.2.2) := fun e0 W fuel cs y h => by
 obtain ⟨xs, n, _, rfl, hl, hlen, hf⟩ := DataW.trod_struct ht h
 match xs, hlen with
 | [y0, y1, y2, y3], _ =>
  have g0 : DataW.trod e0 P W 0 (fun _ => true) true n f0.type ((cs.drop f0.offset).take (P.cellsOf f0.type)) = some y0 := by simpa using hf 0 f0 rfl
  have g1 : DataW.trod e0 P W 0 (fun _ => true) true n f1.type ((cs.drop f1.offset).take (P.cellsOf f1.type)) = some y1 := by simpa using hf 1 f1 rfl
  have g2 : DataW.trod e0 P W 0 (fun _ => true) true n f2.type ((cs.drop f2.offset).take (P.cellsOf f2.type)) = some y2 := by simpa using hf 2 f2 rfl
  have g3 : DataW.trod e0 P W 0 (fun _ => true) true n f3.type ((cs.drop f3.offset).take (P.cellsOf f3.type)) = some y3 := by simpa using hf 3 f3 rfl
  rw [o0, c0, List.drop_zero] at g0
  rw [o1, c1] at g1
  rw [o2, c2] at g2
  rw [o3, c3] at g3
  obtain ⟨x0, q0, l0, k0, s0⟩ := h0 e0 W _ _ _ g0
  obtain ⟨x1, q1, l1, k1, s1⟩ := h1 e0 W _ _ _ g1
  obtain ⟨x2, q2, l2, k2, s2⟩ := h2 e0 W _ _ _ g2
  obtain ⟨x3, q3, l3, k3, s3⟩ := h3 e0 W _ _ _ g3
  rw [hc] at hl
  refine ⟨(x0, x1, x2, x3), ⟨q0, q1, q2, q3⟩, hl, ?_, by simp [Rows.uptoBulk, Rows.uptoBulkAll]; omega⟩
  have e : cs = cs.take n0 ++ ((cs.drop n0).take n1 ++ ((cs.drop (n0 + n1)).take n2 ++ (cs.drop (n0 + n1 + n2)).take n3)) := by
   have t3 : (cs.drop (n0 + n1 + n2)).take n3 = (cs.drop (n0 + n1)).drop n2 := by
    rw [List.take_of_length_le (by simp; omega), List.drop_drop]
   have t2 : (cs.drop (n0 + n1)).take n2 ++ (cs.drop (n0 + n1 + n2)).take n3 = (cs.drop n0).drop n1 := by
    rw [t3, List.take_append_drop, List.drop_drop]
   rw [t2, List.take_append_drop, List.take_append_drop]
  rw [e]
  exact k0.app (k1.app (k2.app k3))
end
end Go.Proofs.YtjlbdhicabgliaaGreat
/- Lists of constructors and channels: what the parts of dataspace come to. -/
namespace Go.Proofs.YtjlbdhicabgliaaGreat
attribute [local irreducible] FU

abbrev Vl := List UInt8
theorem kind_vd {v : Vl} (h : kindW v ≠ 0) : Vd v := by
 unfold kindW at h
 split at h
 ·rename_i hv; exact vldB_iff.1 hv
 ·exact absurd rfl h
theorem kind_g0 {v : Vl} (h : kindW v ≠ 0) : kindW v = ((gi v 0).toNat : Int) := by
 have hv := kind_vd h
 unfold kindW; rw [if_pos (vldB_iff.2 hv)]
theorem kind_shape {v : Vl} (h : kindW v ≠ 0) : (kindW v = 1 ∧ ∃ b, b.length = 8 ∧ v = 1 :: b) ∨ (kindW v = 2 ∧ ∃ b : UInt8, b.toNat ≤ 1 ∧ v = [2, b]) ∨ (kindW v = 10 ∧ ∃ h l, v = [10, h, l]) ∨ (3 ≤ kindW v ∧ kindW v ≤ 9) := by
 have hk := kind_g0 h
 obtain ⟨hv, _⟩ := kind_vd h
 cases hv with
 | int k b hb => exact .inl ⟨by rw [hk]; rfl, b, hb, rfl⟩
 | bool k b hb => exact .inr (.inl ⟨by rw [hk]; rfl, b, hb, rfl⟩)
 | name k a b => exact .inr (.inr (.inl ⟨by rw [hk]; rfl, a, b, rfl⟩))
 | comp k c a b ps hc hn hp hf => exact .inr (.inr (.inr (by rw [hk, gi_0]; omega)))
noncomputable def numW (v : Vl) : Int := if kindW v = 1 then numV v else if kindW v = 2 then ((gi v 1).toNat : Int) else if kindW v = 10 then (((gi v 1).toNat * 256 + (gi v 2).toNat : Nat) : Int) else 0
theorem vNum (v : Vl) : m_value_Number v = some (numW v) := by
 unfold m_value_Number numW
 rw [vKind, zai]
 by_cases h1 : kindW v = 1
 ·rcases kind_shape (v := v) (by omega) with ⟨_, b, hb, rfl⟩ | ⟨h, _⟩ | ⟨h, _⟩ | h
  ·rw [if_pos h1, if_pos h1, vInteger _ (by simp [hb]), zai, numV, List.take_of_length_le (by simp [hb])]
  ·omega
  ·omega
  ·omega
 rw [if_neg h1, if_neg h1]
 by_cases h2 : kindW v = 2
 ·rcases kind_shape (v := v) (by omega) with ⟨h, _⟩ | ⟨_, b, hb, rfl⟩ | ⟨h, _⟩ | h
  ·omega
  ·rw [if_pos h2, if_pos h2, zak (by simp)]
  ·omega
  ·omega
 rw [if_neg h2, if_neg h2]
 by_cases h3 : kindW v = 10
 ·rcases kind_shape (v := v) (by omega) with ⟨h, _⟩ | ⟨h, _⟩ | ⟨_, a, b, rfl⟩ | h
  ·omega
  ·omega
  ·rw [if_pos h3, if_pos h3, zak (by simp), zak (by simp), i64_step]
  ·omega
 rw [if_neg h3, if_neg h3]
theorem pName {k : Int} (h0 : 0 ≤ k) (h1 : k ≤ 65535) : m_value_Name k = some (nameW k) := by
 unfold m_value_Name
 simp only [jn_eq]
 unfold m_value_append16
 have e : IntKind.u16.wrap k = k := by
  unfold IntKind.wrap IntKind.bits IntKind.signed
  simp; omega
 rw [if_neg (by omega), if_neg (by simp; omega), e, zak (by simp), show (2 : Int) ^ min (Int.toNat 8) IntKind.u16.bits = 256 from rfl, Int.fdiv_eq_ediv_of_nonneg _ (by omega), zai]; rfl
theorem pDot {k : Int} (h0 : 0 ≤ k) (h1 : k ≤ 65535) (l : List Vl) (hl : l.length ≤ 1000000000) (hx : ∀ x ∈ l, x.length ≤ 1099511627776) : m_value_Dot k l = some (cmpd 7 (nameW k :: l)) := by
 unfold m_value_Dot
 have := vCompound 7 ([nameW k] ++ l) (fun x h => by
  rcases List.mem_cons.1 h with rfl | h
  ·simp [nameW]
  ·exact hx x h)
 rw [show ((7 : UInt8).toNat : Int) = 7 from rfl] at this
 rw [pName h0 h1, zai, zak (by simp; omega), this, zai]; rfl

abbrev Inf := Vl × Int × List Int × List Vl
theorem vContainsV (a : List Vl) (v : Vl) (ha : a.length ≤ 1099511627776) : m_slices_Contains_L_api_Value_api_Value a v = some (decide (v ∈ a)) := by
 have hFU := FU_ge
 unfold m_slices_Contains_L_api_Value_api_Value m_slices_Index_L_api_Value_api_Value
 rw [jn_eq]
 have loop : ∀ (m i n : Nat), i + m = a.length → m < n → ∃ r, m_slices_Index_L_api_Value_api_Value_L2 a v (fun _ => some (-1)) n i = some r ∧ (0 ≤ r ↔ v ∈ a.drop i) := by
  intro m
  induction m with
  | zero =>
   intro i n hi hn
   obtain ⟨n, rfl⟩ : ∃ k, n = k + 1 := ⟨n - 1, by omega⟩
   refine ⟨-1, by rw [m_slices_Index_L_api_Value_api_Value_L2, m_slices_Index_L_api_Value_api_Value_B2, if_neg (by omega)], ?_⟩
   rw [List.drop_eq_nil_of_le (by omega)]; simp
  | succ m ih =>
   intro i n hi hn
   obtain ⟨n, rfl⟩ : ∃ k, n = k + 1 := ⟨n - 1, by omega⟩
   have hil : i < a.length := by omega
   rw [m_slices_Index_L_api_Value_api_Value_L2, m_slices_Index_L_api_Value_api_Value_B2, if_pos (by omega), zak (by omega), gi_nat hil]
   have hm : v ∈ a.drop i ↔ v = a[i] ∨ v ∈ a.drop (i + 1) := by rw [List.drop_eq_getElem_cons hil]; exact List.mem_cons
   by_cases he : v = a[i]
   ·rw [if_pos he]; exact ⟨i, rfl, fun _ => hm.2 (.inl he), fun _ => by omega⟩
   ·rw [if_neg he, i64_succ (by omega)]
    obtain ⟨r, h1, h2⟩ := ih (i + 1) n (by omega) (by omega)
    exact ⟨r, h1, h2.trans ⟨fun h => hm.2 (.inr h), fun h => (hm.1 h).resolve_left he⟩⟩
 obtain ⟨r, h1, h2⟩ := loop a.length 0 FU (by omega) (by omega)
 rw [Int.natCast_zero] at h1
 rw [List.drop_zero] at h2
 rw [h1, zai]
 by_cases hr : 0 ≤ r
 ·rw [decide_eq_true hr, decide_eq_true (h2.1 hr)]
 ·rw [decide_eq_false hr, decide_eq_false (fun h => hr (h2.2 h))]
theorem pConcat (a : List (List Vl)) (ha : a.length ≤ 1000000) (hl : a.flatten.length ≤ 137438953472) : m_slices_Concat_L_api_Value_api_Value a = some a.flatten := by
 have hFU := FU_ge
 unfold m_slices_Concat_L_api_Value_api_Value
 simp only [jn_eq]
 have loop : ∀ (K : Int → Option (List Vl)) (m i n s : Nat), i + m = a.length → m < n → s + (a.drop i).flatten.length = a.flatten.length → m_slices_Concat_L_api_Value_api_Value_L2 a K n (s : Int) (i : Int) = K (a.flatten.length : Int) := by
  intro K m
  induction m with
  | zero =>
   intro i n s hi hn hs
   obtain ⟨n, rfl⟩ : ∃ j, n = j + 1 := ⟨n - 1, by omega⟩
   rw [List.drop_eq_nil_of_le (by omega), List.flatten_nil, List.length_nil, Nat.add_zero] at hs
   rw [m_slices_Concat_L_api_Value_api_Value_L2, m_slices_Concat_L_api_Value_api_Value_B2, if_neg (by omega), hs]
  | succ m ih =>
   intro i n s hi hn hs
   obtain ⟨n, rfl⟩ : ∃ j, n = j + 1 := ⟨n - 1, by omega⟩
   have hil : i < a.length := by omega
   rw [List.drop_eq_getElem_cons hil, List.flatten_cons, List.length_append] at hs
   rw [m_slices_Concat_L_api_Value_api_Value_L2, m_slices_Concat_L_api_Value_api_Value_B2, if_pos (by omega), zak (by omega), gi_nat hil, i64_id (by omega), if_neg (by omega), i64_succ (by omega)]
   have := ih (i + 1) n (s + a[i].length) (by omega) (by omega) (by omega)
   rw [Int.natCast_add] at this
   exact this
 have h1 := fun K => loop K a.length 0 FU 0 (by omega) (by omega) (by simp)
 simp only [Int.natCast_zero] at h1
 rw [h1]
 have hg : m_slices_Grow_L_api_Value_api_Value (a.flatten.length : Int) = some [] := by
  unfold m_slices_Grow_L_api_Value_api_Value
  simp only [jn_eq]
  rw [if_neg (by omega), show i64 (0 - 0) = 0 from by rw [i64_id (by omega)]; rfl, i64_id (by omega)]
  split
  ·rw [zak (by omega), zak (by simp)]; simp
  ·rfl
 rw [hg, zai]
 have loop2 : ∀ (m i n : Nat) (s : List Vl), i + m = a.length → m < n → s ++ (a.drop i).flatten = a.flatten → m_slices_Concat_L_api_Value_api_Value_L4 a (fun x => some x) n s (i : Int) = some a.flatten := by
  intro m
  induction m with
  | zero =>
   intro i n s hi hn hs
   obtain ⟨n, rfl⟩ : ∃ j, n = j + 1 := ⟨n - 1, by omega⟩
   rw [List.drop_eq_nil_of_le (by omega)] at hs
   rw [m_slices_Concat_L_api_Value_api_Value_L4, m_slices_Concat_L_api_Value_api_Value_B4, if_neg (by omega)]
   simp at hs
   rw [hs]
  | succ m ih =>
   intro i n s hi hn hs
   obtain ⟨n, rfl⟩ : ∃ j, n = j + 1 := ⟨n - 1, by omega⟩
   have hil : i < a.length := by omega
   rw [List.drop_eq_getElem_cons hil, List.flatten_cons, ← List.append_assoc] at hs
   have hsl := congrArg List.length hs
   rw [List.length_append, List.length_append] at hsl
   rw [m_slices_Concat_L_api_Value_api_Value_L4, m_slices_Concat_L_api_Value_api_Value_B4, if_pos (by omega), zak (by omega), gi_nat hil, zak (by omega), i64_succ (by omega)]
   exact ih (i + 1) n _ (by omega) (by omega) hs
 have h2 := loop2 a.length 0 FU [] (by omega) (by omega) (by simp)
 rw [Int.natCast_zero] at h2
 exact h2

noncomputable def dots (v : Vl) : Int × List Vl × Bool := if kindW v = 7 then (numW (gi (prtW v) 0), (prtW v).drop 1, true) else (0, [], false)
theorem dot_parts {v : Vl} (h : kindW v = 7) : 1 ≤ (prtW v).length ∧ (prtW v).length ≤ 9 := by
 have hv := kind_vd (v := v) (by omega)
 have hk := kind_g0 (v := v) (by omega)
 unfold prtW; rw [if_pos (vldB_iff.2 hv)]
 obtain ⟨hv, _⟩ := hv
 cases hv with
 | int k b hb => simp [gi_0] at hk; omega
 | bool k b hb => simp [gi_0] at hk; omega
 | name k a b => simp [gi_0] at hk; omega
 | comp k c x y ps hc hn hp hf =>
  have : c = 7 := u8_inj (by rw [gi_0] at hk; rw [show (7 : UInt8).toNat = 7 from rfl]; omega)
  subst this
  rw [prt_comp hc hn (fun p hp' => (hp p hp').sh) (by omega)]
  simp only [formedB] at hf
  simp at hf
  omega
theorem vSplit (v : Vl) : m_dataspace_split v = some (dots v) := by
 unfold m_dataspace_split dots
 rw [vKind, zai]
 by_cases h : kindW v = 7
 ·have hl := dot_parts h
  rw [if_neg (by simpa using h), if_pos h, vPartsW, zai, zak (by omega), vNum, zai, zak (by omega)]; rfl
 ·rw [if_pos h, if_neg h]
end Go.Proofs.YtjlbdhicabgliaaGreat
/- Valid lists; what is missing; choices; complete values; events. -/
namespace Go.Proofs.YtjlbdhicabgliaaGreat
attribute [local irreducible] FU

noncomputable def okD (d : Vl) : Bool := decide (d = [] ∨ kindW d = 5)
noncomputable def okI (x : Inf) : Bool := decide (-1 ≤ x.2.1) && (decide (x.2.2.2.length ≤ 8) && x.2.2.2.all okD)
noncomputable def validB (l : List Inf) : Bool := l.all okI && decide (l.length ≤ 65536)
theorem valid_in (a0 : List Inf) (p : Int) (k : Unit → Option Bool) (ds : List Vl) (hds : (gi a0 p).2.2.2 = ds) (h8 : ds.length ≤ 8) : ∀ (m i n : Nat), i + m = ds.length → m < n → m_dataspace_Valid_L14 a0 p k n i = if (ds.drop i).all okD then k () else some false := by
 intro m
 induction m with
 | zero =>
  intro i n hi hn
  obtain ⟨n, rfl⟩ : ∃ q, n = q + 1 := ⟨n - 1, by omega⟩
  rw [m_dataspace_Valid_L14, m_dataspace_Valid_B14, hds, if_neg (by omega), List.drop_eq_nil_of_le (by omega)]; rfl
 | succ m ih =>
  intro i n hi hn
  obtain ⟨n, rfl⟩ : ∃ q, n = q + 1 := ⟨n - 1, by omega⟩
  have hil : i < ds.length := by omega
  rw [m_dataspace_Valid_L14, m_dataspace_Valid_B14, hds, if_pos (by omega), zak (by omega)]
  simp only [jn_eq]
  rw [gi_nat hil, List.drop_eq_getElem_cons hil, List.all_cons, i64_succ (by omega), ih (i + 1) n (by omega) (by omega)]
  by_cases h0 : ds[i] = []
  ·rw [if_neg (by simpa using h0), if_neg Bool.false_ne_true]
   have : okD ds[i] = true := decide_eq_true (.inl h0)
   rw [this, Bool.true_and]
  ·rw [if_pos h0, vKind, zai]
   by_cases h5 : kindW ds[i] = 5
   ·have : okD ds[i] = true := decide_eq_true (.inr h5)
    rw [this, Bool.true_and, if_neg (by simpa using h5)]
   ·have : okD ds[i] = false := decide_eq_false (fun h => h.elim h0 h5)
    rw [this, Bool.false_and, if_pos (by simpa using h5)]; rfl
theorem vValidL (l : List Inf) (hl : l.length ≤ 9223372036854775807) : m_dataspace_Valid l = some (validB l) := by
 have hFU := FU_ge
 unfold m_dataspace_Valid
 rw [jn_eq]
 have loop : ∀ (K : Unit → Option Bool) (m i n : Nat), i + m = l.length → m < n → m_dataspace_Valid_L8 l K n i = if (l.drop i).all okI then K () else some false := by
  intro K m
  induction m with
  | zero =>
   intro i n hi hn
   obtain ⟨n, rfl⟩ : ∃ q, n = q + 1 := ⟨n - 1, by omega⟩
   rw [m_dataspace_Valid_L8, m_dataspace_Valid_B8, if_neg (by omega), List.drop_eq_nil_of_le (by omega)]; rfl
  | succ m ih =>
   intro i n hi hn
   obtain ⟨n, rfl⟩ : ∃ q, n = q + 1 := ⟨n - 1, by omega⟩
   have hil : i < l.length := by omega
   rw [m_dataspace_Valid_L8, m_dataspace_Valid_B8, if_pos (by omega)]
   simp only [jn_eq]
   rw [zak (by omega), gi_nat hil, List.drop_eq_getElem_cons hil, List.all_cons]
   by_cases h1 : (l[i]).2.1 < -1
   ·have : okI l[i] = false := by unfold okI; rw [decide_eq_false (by omega), Bool.false_and]
    rw [if_pos h1, if_pos trivial, this]; rfl
   ·rw [if_neg h1]
    by_cases h2 : (8 : Int) < (l[i]).2.2.2.length
    ·have : okI l[i] = false := by unfold okI; rw [decide_eq_false (p := (l[i]).2.2.2.length ≤ 8) (by omega), Bool.false_and, Bool.and_false]
     rw [if_pos (decide_eq_true h2), this]; rfl
    ·rw [if_neg (fun h => h2 (of_decide_eq_true h))]
     have e := valid_in l i (fun _ => m_dataspace_Valid_L8 l K n (i64 ((i : Int) + 1))) (l[i]).2.2.2 (by rw [gi_nat hil]) (by omega) (l[i]).2.2.2.length 0 FU (by omega) (by omega)
     rw [Int.natCast_zero, List.drop_zero] at e
     rw [e, i64_succ (by omega), ih (i + 1) n (by omega) (by omega)]
     have : okI l[i] = (l[i]).2.2.2.all okD := by unfold okI; rw [decide_eq_true (by omega), decide_eq_true (p := (l[i]).2.2.2.length ≤ 8) (by omega), Bool.true_and, Bool.true_and]
     rw [this]
     cases (l[i]).2.2.2.all okD <;> rfl
 have := loop (fun _ => some (decide ((List.length l : Int) ≤ 65536))) l.length 0 FU (by omega) (by omega)
 rw [Int.natCast_zero, List.drop_zero] at this
 rw [this]
 unfold validB
 cases l.all okI
 ·rfl
 ·rw [if_pos rfl, Bool.true_and]; congr 1; exact decide_eq_decide.2 (by omega)
theorem vMissing {l : List Inf} {v : Vl} {n : Nat} {f : List Vl} {b : Bool} (hd : dots v = ((n : Int), f, b)) (hn : n < l.length) (hf : f.length ≤ (l[n]).2.2.2.length) : m_dataspace_missing l v = some ((l[n]).2.2.2.drop f.length) := by
 unfold m_dataspace_missing
 rw [vSplit, zai, hd]
 simp only []
 rw [zak (by omega), gi_nat hn, zak (by omega), Int.toNat_natCast]
theorem vUnb {l : List Inf} {v : Vl} {n : Nat} {f : List Vl} {b : Bool} (hd : dots v = ((n : Int), f, b)) (hn : n < l.length) (hf : f.length ≤ (l[n]).2.2.2.length) (h8 : (l[n]).2.2.2.length ≤ 1000) : m_dataspace_unbounded l v = some (decide ([] ∈ (l[n]).2.2.2.drop f.length)) := by
 unfold m_dataspace_unbounded
 rw [vMissing hd hn hf, zai, vContainsV _ _ (by rw [List.length_drop]; omega), zai]
def chStep (out : List (List Vl)) (ps : List Vl) : List (List Vl) := out.flatMap (fun r => ps.map (fun v => r ++ [v]))
noncomputable def chGo : List Vl → List (List Vl) → List (List Vl) × Bool
 | [], out => (out, true)
 | d :: ds, out => if 4096 < out.length * (prtW d).length then ([], false) else chGo ds (chStep out (prtW d))
noncomputable def chW (ds : List Vl) : List (List Vl) × Bool := if ds.any (fun d => decide ((prtW d).length = 0)) then ([], true) else chGo ds [[]]
theorem chStep_len (out : List (List Vl)) (ps : List Vl) : (chStep out ps).length = out.length * ps.length := by
 induction out with
 | nil => simp [chStep]
 | cons r out ih => simp [chStep] at ih ⊢; rw [ih, Nat.add_mul]; omega
theorem ch_inner (rows : List (List Vl)) (ps : List Vl) (x : Nat) (hx : x < rows.length) (hr : (rows[x]).length ≤ 1000) (hp : ps.length ≤ 131072) (K : List (List Vl) → Option (List (List Vl) × Bool)) : ∀ (m i n : Nat) (out : List (List Vl)), i + m = ps.length → m < n → out.length + m ≤ 1000000 →
  m_dataspace_choices_L172 rows ps x K n out i = K (out ++ (ps.drop i).map (fun v => rows[x] ++ [v])) := by
 intro m
 induction m with
 | zero =>
  intro i n out hi hn ho
  obtain ⟨n, rfl⟩ : ∃ q, n = q + 1 := ⟨n - 1, by omega⟩
  rw [m_dataspace_choices_L172, m_dataspace_choices_B172, if_neg (by omega), List.drop_eq_nil_of_le (by omega)]; simp
 | succ m ih =>
  intro i n out hi hn ho
  obtain ⟨n, rfl⟩ : ∃ q, n = q + 1 := ⟨n - 1, by omega⟩
  have hil : i < ps.length := by omega
  rw [m_dataspace_choices_L172, m_dataspace_choices_B172, if_pos (by omega), zak (by omega), gi_nat hx, vClone _ (by omega), zai, zak (by simp; omega), zak (by simp; omega), gi_nat hil, i64_succ (by omega), ih (i + 1) n _ (by omega) (by omega) (by simp; omega), List.drop_eq_getElem_cons hil, List.map_cons, List.append_assoc]
  rfl
theorem ch_mid (rows : List (List Vl)) (ps : List Vl) (hl : rows.length ≤ 4096) (hr : ∀ r ∈ rows, r.length ≤ 1000) (hp : rows.length * ps.length ≤ 4096) (hp' : ps.length ≤ 131072) (K : List (List Vl) → Option (List (List Vl) × Bool)) : ∀ (m i n : Nat) (out : List (List Vl)), i + m = rows.length → m < n → out.length + m * ps.length ≤ 4096 →
  m_dataspace_choices_L166 rows ps K n out i = K (out ++ chStep (rows.drop i) ps) := by
 have hFU := FU_ge
 intro m
 induction m with
 | zero =>
  intro i n out hi hn ho
  obtain ⟨n, rfl⟩ : ∃ q, n = q + 1 := ⟨n - 1, by omega⟩
  rw [m_dataspace_choices_L166, m_dataspace_choices_B166, if_neg (by omega), List.drop_eq_nil_of_le (by omega)]; simp [chStep]
 | succ m ih =>
  intro i n out hi hn ho
  obtain ⟨n, rfl⟩ : ∃ q, n = q + 1 := ⟨n - 1, by omega⟩
  have hil : i < rows.length := by omega
  rw [Nat.add_mul] at ho
  rw [m_dataspace_choices_L166, m_dataspace_choices_B166, if_pos (by omega)]
  simp only [jn_eq]
  have e := ch_inner rows ps i hil (hr _ (List.getElem_mem hil)) hp' (fun x10_j3419 => m_dataspace_choices_L166 rows ps K n x10_j3419 (i64 ((i : Int) + 1))) ps.length 0 FU out (by omega) (by omega) (by omega)
  rw [Int.natCast_zero, List.drop_zero] at e
  rw [zak (by omega), e, i64_succ (by omega), ih (i + 1) n _ (by omega) (by omega) (by simp; omega), List.drop_eq_getElem_cons hil, List.append_assoc]
  rfl
theorem chStep_row {out : List (List Vl)} {ps : List Vl} {k : Nat} (h : ∀ r ∈ out, r.length = k) : ∀ r ∈ chStep out ps, r.length = k + 1 := fun r hr => by
 obtain ⟨q, hq, hr⟩ := List.mem_flatMap.1 hr
 obtain ⟨v, _, rfl⟩ := List.mem_map.1 hr
 simp [h q hq]
theorem vChoices (ds : List Vl) (hl : ds.length ≤ 1000) : m_dataspace_choices ds = some (chW ds) := by
 have hFU := FU_ge
 unfold m_dataspace_choices chW
 rw [jn_eq]
 have loop1 : ∀ (K : Unit → Option (List (List Vl) × Bool)) (m i n : Nat), i + m = ds.length → m < n → m_dataspace_choices_L2 ds K n i = if (ds.drop i).any (fun d => decide ((prtW d).length = 0)) then some ([], true) else K () := by
  intro K m
  induction m with
  | zero =>
   intro i n hi hn
   obtain ⟨n, rfl⟩ : ∃ q, n = q + 1 := ⟨n - 1, by omega⟩
   rw [m_dataspace_choices_L2, m_dataspace_choices_B2, if_neg (by omega), List.drop_eq_nil_of_le (by omega)]; rfl
  | succ m ih =>
   intro i n hi hn
   obtain ⟨n, rfl⟩ : ∃ q, n = q + 1 := ⟨n - 1, by omega⟩
   have hil : i < ds.length := by omega
   rw [m_dataspace_choices_L2, m_dataspace_choices_B2, if_pos (by omega), zak (by omega), gi_nat hil, vPartsW, zai, List.drop_eq_getElem_cons hil, List.any_cons]
   by_cases h : (prtW ds[i]).length = 0
   ·rw [if_pos (by omega), decide_eq_true h]; rfl
   ·rw [if_neg (by omega), decide_eq_false h, i64_succ (by omega), ih (i + 1) n (by omega) (by omega), Bool.false_or]
 have loop2 : ∀ (m i n : Nat) (out : List (List Vl)), i + m = ds.length → m < n → out.length ≤ 4096 → (∀ r ∈ out, r.length = i) → m_dataspace_choices_L88 ds (fun x => some (x, true)) n out i = some (chGo (ds.drop i) out) := by
  intro m
  induction m with
  | zero =>
   intro i n out hi hn ho hr
   obtain ⟨n, rfl⟩ : ∃ q, n = q + 1 := ⟨n - 1, by omega⟩
   rw [m_dataspace_choices_L88, m_dataspace_choices_B88, if_neg (by omega), List.drop_eq_nil_of_le (by omega)]; rfl
  | succ m ih =>
   intro i n out hi hn ho hr
   obtain ⟨n, rfl⟩ : ∃ q, n = q + 1 := ⟨n - 1, by omega⟩
   have hil : i < ds.length := by omega
   have hpl := (prtW_spec ds[i]).2.1
   have hm : out.length * (prtW ds[i]).length ≤ 4096 * 65535 := Nat.mul_le_mul ho hpl
   rw [m_dataspace_choices_L88, m_dataspace_choices_B88, if_pos (by omega)]
   simp only [jn_eq]
   have e : i64 ((out.length : Int) * ((prtW ds[i]).length : Int)) = ((out.length * (prtW ds[i]).length : Nat) : Int) := by rw [← Int.natCast_mul, i64_id (by omega)]
   rw [zak (by omega), gi_nat hil, vPartsW, zai, e, List.drop_eq_getElem_cons hil, chGo]
   by_cases h : 4096 < out.length * (prtW ds[i]).length
   ·rw [if_pos (by omega), if_pos h]
   ·rw [if_neg (by omega), if_neg h]
    have e2 := ch_mid out (prtW ds[i]) ho (fun r hr' => by rw [hr r hr']; omega) (by omega) (by omega) (fun x => m_dataspace_choices_L88 ds (fun x => some (x, true)) n x (i64 ((i : Int) + 1))) out.length 0 FU [] (by omega) (by omega) (by simp; omega)
    rw [Int.natCast_zero, List.drop_zero, List.nil_append] at e2
    rw [e2, i64_succ (by omega), ih (i + 1) n _ (by omega) (by omega) (by rw [chStep_len]; omega) (chStep_row hr)]
 have h1 := loop1 (fun _ => jn (fun x6_j15 => some (x6_j15, true)) (fun k15 => m_dataspace_choices_L88 ds k15 FU ([[]]) 0)) ds.length 0 FU (by omega) (by omega)
 rw [Int.natCast_zero, List.drop_zero] at h1
 rw [h1]
 split
 ·rfl
 ·rw [jn_eq]
  have h2 := loop2 ds.length 0 FU [[]] (by omega) (by omega) (by simp) (by simp)
  rw [Int.natCast_zero, List.drop_zero] at h2
  exact h2
end Go.Proofs.YtjlbdhicabgliaaGreat
/- Complete values and events: what the program's functions come to. -/
namespace Go.Proofs.YtjlbdhicabgliaaGreat
attribute [local irreducible] FU

noncomputable abbrev dotW (n : Nat) (f : List Vl) : Vl := cmpd 7 (nameW (n : Int) :: f)
noncomputable def comW (n : Nat) (f : List Vl) (rows : List (List Vl)) : List Vl × Int := if rows.any (fun r => decide (dotW n (f ++ r) = [])) then ([], 9) else (rows.map (fun r => dotW n (f ++ r)), 0)
theorem com_loop (n : Nat) (hn : n ≤ 65535) (f : List Vl) (hf : f.length ≤ 1000) (hfx : ∀ x ∈ f, x.length ≤ 1099511627776) (rows : List (List Vl)) (ok : Bool) (hr : ∀ r ∈ rows, r.length ≤ 1000 ∧ ∀ x ∈ r, x.length ≤ 1099511627776) (hl : rows.length ≤ 1000000) (b : Bool) :
  ∀ (m i g : Nat) (out : List Vl), i + m = rows.length → m < g → out.length + m ≤ 2000000 → m_dataspace_complete_L2 (rows, ok) ((n : Int), f, b) (fun x => some (x, 0)) g out i = some (if (rows.drop i).any (fun r => decide (dotW n (f ++ r) = [])) then ([], 9) else (out ++ (rows.drop i).map (fun r => dotW n (f ++ r)), 0)) := by
 intro m
 induction m with
 | zero =>
  intro i g out hi hg ho
  obtain ⟨g, rfl⟩ : ∃ q, g = q + 1 := ⟨g - 1, by omega⟩
  rw [m_dataspace_complete_L2, m_dataspace_complete_B2, if_neg (by simp only []; omega), List.drop_eq_nil_of_le (by omega)]; simp
 | succ m ih =>
  intro i g out hi hg ho
  obtain ⟨g, rfl⟩ : ∃ q, g = q + 1 := ⟨g - 1, by omega⟩
  have hil : i < rows.length := by omega
  obtain ⟨r1, r2⟩ := hr _ (List.getElem_mem hil)
  rw [m_dataspace_complete_L2, m_dataspace_complete_B2, if_pos (by simp only []; omega)]
  simp only []
  rw [zak (by omega), gi_nat hil, pConcat _ (by simp) (by simp; omega), zai, show [f, rows[i]].flatten = f ++ rows[i] by simp,
   pDot (by omega) (by omega) _ (by simp; omega) (fun x hx => (List.mem_append.1 hx).elim (hfx x) (r2 x)), zai, List.drop_eq_getElem_cons hil, List.any_cons, List.map_cons]
  by_cases h : dotW n (f ++ rows[i]) = []
  ·rw [if_pos h, decide_eq_true h]; rfl
  ·rw [if_neg h, decide_eq_false h, zak (by simp; omega), i64_succ (by omega), ih (i + 1) g _ (by omega) (by omega) (by simp; omega), Bool.false_or, List.append_assoc]; rfl
theorem chGo_bound : ∀ (ds : List Vl) (out : List (List Vl)) (k : Nat), out.length ≤ 4096 → (∀ r ∈ out, r.length = k ∧ ∀ x ∈ r, x.length ≤ 131072) → (chGo ds out).1.length ≤ 4096 ∧ ∀ r ∈ (chGo ds out).1, r.length = k + ds.length ∧ ∀ x ∈ r, x.length ≤ 131072
 | [], out, k, h1, h2 => ⟨h1, h2⟩
 | d :: ds, out, k, h1, h2 => by
  rw [chGo]
  split
  ·exact ⟨by simp, by simp⟩
  ·have := chGo_bound ds (chStep out (prtW d)) (k + 1) (by rw [chStep_len]; omega) (fun r hr => by
    obtain ⟨q, hq, hr⟩ := List.mem_flatMap.1 hr
    obtain ⟨v, hv, rfl⟩ := List.mem_map.1 hr
    refine ⟨by simp [(h2 q hq).1], fun x hx => ?_⟩
    rcases List.mem_append.1 hx with hx | hx
    ·exact (h2 q hq).2 x hx
    ·rw [List.mem_singleton] at hx; subst hx; exact ((prtW_spec d).1 x hv).2)
   refine ⟨this.1, fun r hr => ?_⟩
   have h := this.2 r hr
   rw [List.length_cons]; exact ⟨by omega, h.2⟩
theorem chW_bound (ds : List Vl) : (chW ds).1.length ≤ 4096 ∧ ∀ r ∈ (chW ds).1, r.length = ds.length ∧ ∀ x ∈ r, x.length ≤ 131072 := by
 unfold chW
 split
 ·exact ⟨by simp, by simp⟩
 ·have := chGo_bound ds [[]] 0 (by simp) (by simp)
  simpa using this
noncomputable def complW (l : List Inf) (n : Nat) (f : List Vl) : List Vl × Int :=
 let c := chW ((gi l (n : Int)).2.2.2.drop f.length)
 if c.2 = true then comW n f c.1 else ([], 9)
theorem vComplete {l : List Inf} {v : Vl} {n : Nat} {f : List Vl} {b : Bool} (hd : dots v = ((n : Int), f, b)) (hn : n < l.length) (hn' : n ≤ 65535) (hf : f.length ≤ (l[n]).2.2.2.length) (h8 : (l[n]).2.2.2.length ≤ 1000) (hfx : ∀ x ∈ f, x.length ≤ 1099511627776) : m_dataspace_complete l v = some (complW l n f) := by
 have hFU := FU_ge
 unfold m_dataspace_complete complW
 have hb := chW_bound ((l[n]).2.2.2.drop f.length)
 rw [vMissing hd hn hf, zai, vChoices _ (by rw [List.length_drop]; omega), zai, gi_nat hn]
 generalize chW ((l[n]).2.2.2.drop f.length) = c at hb
 obtain ⟨rows, ok⟩ := c
 simp only [] at hb ⊢
 cases ok with
 | false => rfl
 | true =>
  rw [if_neg (by simp), if_pos rfl, vSplit, zai, hd]
  simp only [jn_eq]
  have := com_loop n hn' f (by omega) hfx rows true (fun r hr => ⟨by have := (hb.2 r hr).1; rw [List.length_drop] at this; omega, fun x hx => by have := (hb.2 r hr).2 x hx; omega⟩) (by omega) b rows.length 0 FU [] (by omega) (by omega) (by simp; omega)
  rw [Int.natCast_zero, List.drop_zero] at this
  rw [this]; rfl
end Go.Proofs.YtjlbdhicabgliaaGreat
/- Events. -/
namespace Go.Proofs.YtjlbdhicabgliaaGreat
attribute [local irreducible] FU

theorem kind_nameW (k : Int) : kindW (nameW k) = 10 := by
 have hV : Vd (nameW k) := ⟨(nameW_IsV k 0).le (by omega), by simp [nameW]⟩
 unfold kindW; rw [if_pos (vldB_iff.2 hV)]; rfl
theorem num_nameW {k : Nat} (h1 : k ≤ 65535) : numW (nameW k) = k := by
 unfold numW
 rw [kind_nameW, if_neg (by omega), if_neg (by omega), if_pos rfl, show gi (nameW (k : Int)) 1 = u8i ((k : Int) / 256) from rfl, show gi (nameW (k : Int)) 2 = u8i (k : Int) from rfl]
 have e : ((k : Int) / 256) = ((k / 256 : Nat) : Int) := by omega
 rw [e, u8i_nat, u8i_nat]
 omega
theorem raw7_kind {l : List Vl} (h : Vd (raw 7 l)) : kindW (raw 7 l) = 7 := by
 unfold kindW; rw [if_pos (vldB_iff.2 h)]; rfl
theorem dots_dot {n : Nat} (hn : n ≤ 65535) {f : List Vl} (h : dotW n f ≠ []) : dots (dotW n f) = ((n : Int), f, true) := by
 have hh := cmpd_ne.1 h
 have e : dotW n f = raw 7 (nameW n :: f) := cmpd_yes hh
 unfold dots
 rw [e, raw7_kind hh.2.2, if_pos rfl]
 have hp : prtW (raw 7 (nameW n :: f)) = nameW n :: f := by
  unfold prtW; rw [if_pos (vldB_iff.2 hh.2.2)]
  exact prt_raw (by decide) hh.1 hh.2.1
 rw [hp, show gi (nameW (n : Int) :: f) 0 = nameW n from rfl, num_nameW hn]; rfl
theorem dot0_ne (n : Nat) : dotW n [] ≠ [] := by
 refine cmpd_ne.2 ⟨by simp, fun x hx => ?_, ?_, ?_⟩
 ·rw [List.mem_singleton] at hx; subst hx; exact ⟨(nameW_IsV n 0).le (by omega), by simp [nameW]⟩
 ·exact .comp 31 7 _ _ [nameW n] (by decide) (raw_count (by simp)) (fun p hp => by rw [List.mem_singleton] at hp; subst hp; exact (nameW_IsV n 0).le (by omega)) (by simp [formedB, gi2_00, nameW])
 ·simp [raw, nameW]
noncomputable def evGo (l : List Inf) : List Inf → Nat → List Vl → List Vl × Int
 | [], _, out => (out, 0)
 | x :: xs, i, out => if x.2.1 = -1 then (if (complW l i []).2 = 0 then (if 1024 < (out ++ (complW l i []).1).length then ([], 9) else evGo l xs (i + 1) (out ++ (complW l i []).1)) else ([], (complW l i []).2)) else evGo l xs (i + 1) out
noncomputable def evW (l : List Inf) : List Vl × Int := if validB l then (if l.any (fun x => decide (x.2.1 = -1) && decide ([] ∈ x.2.2.2)) then ([], 17) else evGo l l 0 []) else ([], 1)
theorem compl_len (l : List Inf) (n : Nat) (f : List Vl) : (complW l n f).1.length ≤ 4096 := by
 unfold complW
 have hb := chW_bound ((gi l (n : Int)).2.2.2.drop f.length)
 simp only []
 split
 ·unfold comW
  split
  ·simp
  ·simpa using hb.1
 ·simp
theorem vEvents (l : List Inf) (hl : l.length ≤ 9223372036854775807) : m_dataspace_Events l = some (evW l) := by
 have hFU := FU_ge
 unfold m_dataspace_Events evW
 rw [vValidL l hl, zai]
 cases hv : validB l with
 | false => rfl
 | true =>
  rw [if_neg (by simp), if_pos rfl, jn_eq]
  have hv' := hv
  unfold validB at hv'
  simp only [Bool.and_eq_true, decide_eq_true_eq, List.all_eq_true] at hv'
  obtain ⟨hI, hL⟩ := hv'
  have h8 : ∀ (i : Nat) (h : i < l.length), (l[i]).2.2.2.length ≤ 8 := fun i h => by
   have := hI _ (List.getElem_mem h)
   unfold okI at this
   simp only [Bool.and_eq_true, decide_eq_true_eq] at this
   exact this.2.1
  have loop1 : ∀ (K : Unit → Option (List Vl × Int)) (m i n : Nat), i + m = l.length → m < n → m_dataspace_Events_L2 l K n i = if (l.drop i).any (fun x => decide (x.2.1 = -1) && decide ([] ∈ x.2.2.2)) then some ([], 17) else K () := by
   intro K m
   induction m with
   | zero =>
    intro i n hi hn
    obtain ⟨n, rfl⟩ : ∃ q, n = q + 1 := ⟨n - 1, by omega⟩
    rw [m_dataspace_Events_L2, m_dataspace_Events_B2, if_neg (by omega), List.drop_eq_nil_of_le (by omega)]; rfl
   | succ m ih =>
    intro i n hi hn
    obtain ⟨n, rfl⟩ : ∃ q, n = q + 1 := ⟨n - 1, by omega⟩
    have hil : i < l.length := by omega
    rw [m_dataspace_Events_L2, m_dataspace_Events_B2, if_pos (by omega), zak (by omega)]
    simp only [jn_eq]
    rw [gi_nat hil, List.drop_eq_getElem_cons hil, List.any_cons, i64_succ (by omega), ih (i + 1) n (by omega) (by omega)]
    by_cases h : (l[i]).2.1 = -1
    ·have hd := dots_dot (n := i) (by omega) (dot0_ne i)
     rw [if_pos h, decide_eq_true h, pDot (by omega) (by omega) _ (by simp) (by simp), zai, vUnb hd hil (by simp) (by have := h8 i hil; omega), zai, List.length_nil, List.drop_zero, Bool.true_and]
     cases decide ([] ∈ (l[i]).2.2.2) <;> rfl
    ·rw [if_neg h, decide_eq_false h, if_neg Bool.false_ne_true, Bool.false_and, Bool.false_or]
  have loop2 : ∀ (m i n : Nat) (out : List Vl), i + m = l.length → m < n → out.length ≤ 1024 → m_dataspace_Events_L4 l (fun x => bnd1 (m_slices_Clip_L_api_Value_api_Value x) (fun y => some (y, 0))) n out i = some (evGo l (l.drop i) i out) := by
   intro m
   induction m with
   | zero =>
    intro i n out hi hn ho
    obtain ⟨n, rfl⟩ : ∃ q, n = q + 1 := ⟨n - 1, by omega⟩
    rw [m_dataspace_Events_L4, m_dataspace_Events_B4, if_neg (by omega), List.drop_eq_nil_of_le (by omega), vClip, zai]; rfl
   | succ m ih =>
    intro i n out hi hn ho
    obtain ⟨n, rfl⟩ : ∃ q, n = q + 1 := ⟨n - 1, by omega⟩
    have hil : i < l.length := by omega
    rw [m_dataspace_Events_L4, m_dataspace_Events_B4, if_pos (by omega)]
    simp only [jn_eq]
    rw [zak (by omega), gi_nat hil, List.drop_eq_getElem_cons hil, evGo, i64_succ (by omega)]
    by_cases h : (l[i]).2.1 = -1
    ·have hd := dots_dot (n := i) (by omega) (dot0_ne i)
     have hcl := compl_len l i []
     rw [if_neg (fun h' => h' h), if_pos h, pDot (by omega) (by omega) _ (by simp) (by simp), zai, vComplete hd hil (by omega) (by simp) (by have := h8 i hil; omega) (by simp), zai]
     by_cases h0 : (complW l i []).2 = 0
     ·rw [if_neg (fun h' => h' h0), if_pos h0, zak (by omega)]
      by_cases h3 : 1024 < (out ++ (complW l i []).1).length
      ·rw [if_pos (by omega), if_pos h3]
      ·rw [if_neg (by omega), if_neg h3, ih (i + 1) n _ (by omega) (by omega) (by omega)]
     ·rw [if_pos h0, if_neg h0]
    ·rw [if_pos h, if_neg h, ih (i + 1) n _ (by omega) (by omega) ho]
  have h1 := loop1 (fun _ => jn (fun x6_j94 => bnd1 (m_slices_Clip_L_api_Value_api_Value x6_j94) (fun y174 => some (y174, 0))) (fun k94 => m_dataspace_Events_L4 l k94 FU [] 0)) l.length 0 FU (by omega) (by omega)
  rw [Int.natCast_zero, List.drop_zero] at h1
  rw [h1]
  split
  ·rfl
  ·rw [jn_eq]
   have h2 := loop2 l.length 0 FU [] (by omega) (by omega) (by simp)
   rw [Int.natCast_zero, List.drop_zero] at h2
   exact h2
end Go.Proofs.YtjlbdhicabgliaaGreat
/- What belongs to a list; complete values. -/
namespace Go.Proofs.YtjlbdhicabgliaaGreat
attribute [local irreducible] FU

noncomputable def inB (d x : Vl) : Bool := decide (d = [] ∨ x ∈ prtW d)
noncomputable def allIn : List Vl → List Vl → Bool
 | f :: fs, d :: ds => inB d f && allIn fs ds
 | _, _ => true
theorem dots_num (v : Vl) : 0 ≤ (dots v).1 ∧ (dots v).1 ≤ 65535 := by
 unfold dots
 split
 ·rename_i h
  have hv := kind_vd (v := v) (by omega)
  have hk := kind_g0 (v := v) (by omega)
  simp only []
  unfold prtW; rw [if_pos (vldB_iff.2 hv)]
  obtain ⟨hv, _⟩ := hv
  cases hv with
  | int k b hb => simp [gi_0] at hk; omega
  | bool k b hb => simp [gi_0] at hk; omega
  | name k a b => simp [gi_0] at hk; omega
  | comp k c x y ps hc hn hp hf =>
   have : c = 7 := u8_inj (by rw [gi_0] at hk; rw [show (7 : UInt8).toNat = 7 from rfl]; omega)
   subst this
   rw [prt_comp hc hn (fun p hp' => (hp p hp').sh) (by omega)]
   simp only [formedB] at hf
   simp at hf
   obtain ⟨h1, _, h2⟩ := hf
   match ps, h1, h2, hp with
   | p :: ps, _, h2, hp =>
    have e : gi (p :: ps) 0 = p := rfl
    rw [e] at h2 ⊢
    have hp0 := hp p List.mem_cons_self
    have hkp : numW p = 0 ∨ kindW p = 10 := by
     by_cases hz : kindW p = 0
     ·left; unfold numW; rw [if_neg (by omega), if_neg (by omega), if_neg (by omega)]
     ·right; rw [kind_g0 hz, h2]; rfl
    rcases hkp with h | h
    ·omega
    ·unfold numW
     rw [if_neg (by omega), if_neg (by omega), if_pos h]
     have a1 := (gi p 1).toNat_lt
     have a2 := (gi p 2).toNat_lt
     omega
 ·simp
noncomputable def belB (l : List Inf) (v : Vl) : Bool := (dots v).2.2 && (decide ((dots v).1 < l.length) && (decide ((dots v).2.1.length ≤ (gi l (dots v).1).2.2.2.length) && allIn (dots v).2.1 (gi l (dots v).1).2.2.2))
theorem bel_loop (l : List Inf) (y : Int × List Vl × Bool) (n : Nat) (hy : y.1 = n) (hn : n < l.length) (hf : y.2.1.length ≤ (l[n]).2.2.2.length) (h8 : y.2.1.length ≤ 1000) (K : Unit → Option Bool) : ∀ (m i g : Nat), i + m = y.2.1.length → m < g → m_dataspace_belongs_L2 l y K g i = if allIn (y.2.1.drop i) ((l[n]).2.2.2.drop i) then K () else some false := by
 intro m
 induction m with
 | zero =>
  intro i g hi hg
  obtain ⟨g, rfl⟩ : ∃ q, g = q + 1 := ⟨g - 1, by omega⟩
  rw [m_dataspace_belongs_L2, m_dataspace_belongs_B2, if_neg (by omega), List.drop_eq_nil_of_le (show y.2.1.length ≤ i by omega)]; simp [allIn]
 | succ m ih =>
  intro i g hi hg
  obtain ⟨g, rfl⟩ : ∃ q, g = q + 1 := ⟨g - 1, by omega⟩
  have hil : i < y.2.1.length := by omega
  have hid : i < (l[n]).2.2.2.length := by omega
  rw [m_dataspace_belongs_L2, m_dataspace_belongs_B2, if_pos (by omega), zak (by omega), hy, zak (by omega), gi_nat hn, zak (by omega)]
  simp only [jn_eq]
  rw [gi_nat hil, gi_nat hid, List.drop_eq_getElem_cons hil, List.drop_eq_getElem_cons hid, allIn, i64_succ (by omega), ih (i + 1) g (by omega) (by omega)]
  unfold inB
  by_cases h0 : (l[n]).2.2.2[i] = []
  ·rw [if_neg (by simpa using h0), if_neg Bool.false_ne_true, decide_eq_true (.inl h0), Bool.true_and]
  ·have hl := (prtW_spec (l[n]).2.2.2[i]).2.1
   rw [if_pos h0, vPartsW, zai, vContainsV _ _ (by omega), zai]
   by_cases hm : y.2.1[i] ∈ prtW (l[n]).2.2.2[i]
   ·rw [decide_eq_true hm, decide_eq_true (.inr hm), if_neg (by simp), Bool.true_and]
   ·rw [decide_eq_false hm, decide_eq_false (fun h => h.elim h0 hm), if_pos (by simp)]; rfl
theorem dots_len (v : Vl) : (dots v).2.1.length ≤ 8 := by
 unfold dots
 split
 ·rename_i h
  have := dot_parts h
  simp; omega
 ·simp
theorem vBelongs (l : List Inf) (v : Vl) : m_dataspace_belongs l v = some (belB l v) := by
 have hFU := FU_ge
 unfold m_dataspace_belongs belB
 rw [vSplit, zai]
 have hd := dots_num v
 have hlen := dots_len v
 simp only [jn_eq]
 generalize dots v = y at hd hlen
 obtain ⟨k, f, ok⟩ := y
 simp only [] at hd hlen ⊢
 cases ok with
 | false => rfl
 | true =>
  rw [if_neg (by simp), Bool.true_and]
  by_cases hn : (l.length : Int) ≤ k
  ·rw [if_pos hn, decide_eq_false (p := k < (l.length : Int)) (by omega)]; rfl
  ·obtain ⟨n, rfl⟩ : ∃ n : Nat, k = n := ⟨k.toNat, by omega⟩
   have hnl : n < l.length := by omega
   rw [if_neg hn, zak (by omega), decide_eq_true (p := (n : Int) < (l.length : Int)) (by omega), Bool.true_and, gi_nat hnl]
   by_cases hf : ((l[n]).2.2.2.length : Int) < f.length
   ·rw [if_pos (decide_eq_true hf), decide_eq_false (p := f.length ≤ (l[n]).2.2.2.length) (by omega)]; rfl
   ·have e := bel_loop l ((n : Int), f, true) n rfl hnl (by simp only []; omega) (by simp only []; omega) (fun _ => some true) f.length 0 FU (by simp only []; omega) (by omega)
    rw [Int.natCast_zero, List.drop_zero, List.drop_zero] at e
    rw [if_neg (fun h => hf (of_decide_eq_true h)), decide_eq_true (p := f.length ≤ (l[n]).2.2.2.length) (by omega), Bool.true_and, e]
    cases allIn f (l[n]).2.2.2 <;> rfl
noncomputable def cplB (l : List Inf) (v : Vl) : Bool := validB l && (belB l v && decide ((dots v).2.1.length = (gi l (dots v).1).2.2.2.length))
theorem vCompleteB (l : List Inf) (v : Vl) (hl : l.length ≤ 9223372036854775807) : m_dataspace_Complete l v = some (cplB l v) := by
 unfold m_dataspace_Complete cplB
 simp only [jn_eq]
 rw [vValidL l hl, zai]
 cases validB l with
 | false => rfl
 | true =>
  rw [if_pos rfl, vBelongs, zai, Bool.true_and]
  cases hb : belB l v with
  | false => rfl
  | true =>
   rw [if_pos rfl, Bool.true_and]
   unfold belB at hb
   simp only [Bool.and_eq_true, decide_eq_true_eq] at hb
   have hd := dots_num v
   obtain ⟨n, hn⟩ : ∃ n : Nat, (dots v).1 = n := ⟨(dots v).1.toNat, by omega⟩
   obtain ⟨_, h1, h2, _⟩ := hb
   rw [hn] at h1 h2 ⊢
   have hnl : n < l.length := by omega
   rw [gi_nat hnl] at h2 ⊢
   rw [vMissing (f := (dots v).2.1) (b := (dots v).2.2) (by rw [← hn]) hnl h2, zai]
   congr 1
   refine decide_eq_decide.2 ?_
   rw [List.length_drop]; omega
end Go.Proofs.YtjlbdhicabgliaaGreat
/- The lists that are drawn. -/
namespace Go.Proofs.YtjlbdhicabgliaaGreat
attribute [local irreducible] FU

def IntsOK (L : List Vl) : Prop := L.length ≤ 4 ∧ ∀ x ∈ L, ∃ k : Int, 0 ≤ k ∧ k < 6 ∧ x = intW k
def DomOK (d : Vl) : Prop := d = [] ∨ ∃ L, d = setW L ∧ IntsOK L
def InfOK (x : Inf) : Prop := -1 ≤ x.2.1 ∧ x.2.1 ≤ 1 ∧ x.2.2.2.length ≤ 3 ∧ ∀ d ∈ x.2.2.2, DomOK d
theorem names_in (K : List Int → Int → List Int → List Vl → Option (List Inf × (List Int × Int))) : ∀ (m n : Nat) (l : List Int) (i : Int) (xs : List Int) (ds : List Vl), m < n → GS l i → ds.length + m ≤ 3 → xs.length + m ≤ 3 → (∀ d ∈ ds, DomOK d) →
  ∃ i' xs' ds', m_law11_names_L26 K n l i xs ds m = K l i' xs' ds' ∧ GS l i' ∧ ds'.length ≤ 3 ∧ ∀ d ∈ ds', DomOK d := by
 intro m
 induction m with
 | zero =>
  intro n l i xs ds hn hg hl hx hd
  obtain ⟨n, rfl⟩ : ∃ q, n = q + 1 := ⟨n - 1, by omega⟩
  exact ⟨i, xs, ds, by rw [m_law11_names_L26, m_law11_names_B26, if_neg (by omega)], hg, by omega, hd⟩
 | succ m ih =>
  intro n l i xs ds hn hg hl hx hd
  obtain ⟨n, rfl⟩ : ∃ q, n = q + 1 := ⟨n - 1, by omega⟩
  obtain ⟨i1, L, e1, g1, hL⟩ := gInts hg
  obtain ⟨y, i2, e2, g2, y0, y1⟩ := gNext g1 (n := 12) (by omega) (by omega)
  have e3 : i64 (((m + 1 : Nat) : Int) - 1) = (m : Int) := by rw [i64_id (by omega)]; omega
  rw [m_law11_names_L26, m_law11_names_B26, if_pos (by omega), e1, zai]
  simp only [jn_eq]
  rw [e2, zai]
  simp only []
  have go : ∀ d, DomOK d → ∃ i' xs' ds', need (List.length ds + List.length [d] ≤ 137438953472) (need (List.length xs + List.length [(0 : Int)] ≤ 137438953472) (m_law11_names_L26 K n l i2 (xs ++ [0]) (ds ++ [d]) (i64 (((m + 1 : Nat) : Int) - 1)))) = K l i' xs' ds' ∧ GS l i' ∧ ds'.length ≤ 3 ∧ ∀ d ∈ ds', DomOK d := fun d hd' => by
   rw [zak (by simp; omega), zak (by simp; omega), e3]
   refine ih n l i2 _ _ (by omega) g2 (by simp; omega) (by simp; omega) (fun q hq => ?_)
   rcases List.mem_append.1 hq with hq | hq
   ·exact hd q hq
   ·rw [List.mem_singleton] at hq; subst hq; exact hd'
  split
  ·exact go [] (.inl rfl)
  ·exact go _ (.inr ⟨L, rfl, hL⟩)
theorem names_out : ∀ (m n : Nat) (k : Nat) (l : List Int) (i : Int) (out : List Inf), k + m = 4 → m < n → GS l i → out.length = k → (∀ x ∈ out, InfOK x) →
  ∃ i' out', m_law11_names_L14 (fun a b c => some (c, (a, b))) n l i out k = some (out', (l, i')) ∧ GS l i' ∧ out'.length ≤ 4 ∧ max k 1 ≤ out'.length ∧ ∀ x ∈ out', InfOK x := by
 have hFU := FU_ge
 intro m
 induction m with
 | zero =>
  intro n k l i out hk hn hg ho hx
  obtain ⟨n, rfl⟩ : ∃ q, n = q + 1 := ⟨n - 1, by omega⟩
  obtain ⟨y, i1, e1, g1, y0, y1⟩ := gNext hg (n := 4) (by omega) (by omega)
  refine ⟨i1, out, ?_, g1, by omega, by omega, hx⟩
  rw [m_law11_names_L14, m_law11_names_B14, e1, zai]
  simp only []
  rw [i64_id (by omega), if_neg (by omega)]
 | succ m ih =>
  intro n k l i out hk hn hg ho hx
  obtain ⟨n, rfl⟩ : ∃ q, n = q + 1 := ⟨n - 1, by omega⟩
  obtain ⟨y, i1, e1, g1, y0, y1⟩ := gNext hg (n := 4) (by omega) (by omega)
  rw [m_law11_names_L14, m_law11_names_B14, e1, zai]
  simp only [jn_eq]
  rw [i64_id (x := 1 + y) (by omega)]
  by_cases hc : (k : Int) < 1 + y
  ·obtain ⟨z, i2, e2, g2, z0, z1⟩ := gNext g1 (n := 3) (by omega) (by omega)
   obtain ⟨u, i3, e3, g3, u0, u1⟩ := gNext g2 (n := 4) (by omega) (by omega)
   obtain ⟨u, rfl⟩ : ∃ q : Nat, u = q := ⟨u.toNat, by omega⟩
   rw [if_pos hc, zak (by simp; omega), e2, zai]
   simp only []
   rw [e3, zai]
   simp only []
   obtain ⟨i4, xs, ds, e4, g4, h4, h5⟩ := names_in (fun x0_0_j1250 x0_1_j1250 x5_2_j1250 x5_3_j1250 => need (List.length out + List.length ([(gi ([[97], [75], [99], [76]] : List Vl) (k : Int), i64 (z - 1), x5_2_j1250, x5_3_j1250)]) ≤ 137438953472) (m_law11_names_L14 (fun a b c => some (c, (a, b))) n x0_0_j1250 x0_1_j1250 (out ++ ([(gi ([[97], [75], [99], [76]] : List Vl) (k : Int), i64 (z - 1), x5_2_j1250, x5_3_j1250)])) (i64 ((k : Int) + 1)))) u FU l i3 [] [] (by omega) g3 (by simp; omega) (by simp; omega) (by simp)
   obtain ⟨i', out', q1, q2, q3, q4, q5⟩ := ih n (k + 1) l i4 (out ++ ([(gi ([[97], [75], [99], [76]] : List Vl) (k : Int), i64 (z - 1), xs, ds)])) (by omega) (by omega) g4 (by simp; omega) (fun x h => by
    rcases List.mem_append.1 h with h | h
    ·exact hx x h
    ·rw [List.mem_singleton] at h; subst h
     exact ⟨by simp only []; rw [i64_id (by omega)]; omega, by simp only []; rw [i64_id (by omega)]; omega, h4, h5⟩)
   refine ⟨i', out', e4.trans ?_, q2, q3, by omega, q5⟩
   rw [zak (by simp; omega), i64_succ (by omega)]
   exact q1
  ·rw [if_neg hc]
   exact ⟨i1, out, rfl, g1, by omega, by omega, hx⟩
theorem gNames1 {l : List Int} {i : Int} (h : GS l i) : ∃ i' L, m_law11_names (l, i) = some (L, (l, i')) ∧ GS l i' ∧ 1 ≤ L.length ∧ L.length ≤ 4 ∧ ∀ x ∈ L, InfOK x := by
 have hFU := FU_ge
 unfold m_law11_names
 rw [jn_eq]
 obtain ⟨i', out', q1, q2, q3, q4, q5⟩ := names_out 4 FU 0 l i [] (by omega) (by omega) h (by simp) (by simp)
 rw [Int.natCast_zero] at q1
 exact ⟨i', out', q1, q2, by omega, q3, q5⟩
end Go.Proofs.YtjlbdhicabgliaaGreat
/- The rows of choices: what they hold, how many, in ascending order. -/
namespace Go.Proofs.YtjlbdhicabgliaaGreat
attribute [local irreducible] FU

theorem chGo_mem : ∀ (ds : List Vl) (out : List (List Vl)) (r : List Vl), r ∈ (chGo ds out).1 → ∃ q ∈ out, ∃ t, r = q ++ t ∧ t.length = ds.length ∧ allIn t ds = true
 | [], out, r, h => ⟨r, h, [], by simp, rfl, rfl⟩
 | d :: ds, out, r, h => by
  rw [chGo] at h
  split at h
  ·cases h
  ·obtain ⟨q, hq, t, rfl, h2, h3⟩ := chGo_mem ds _ r h
   obtain ⟨q0, hq0, hq⟩ := List.mem_flatMap.1 hq
   obtain ⟨v, hv, rfl⟩ := List.mem_map.1 hq
   refine ⟨q0, hq0, v :: t, by simp, by simp [h2], ?_⟩
   rw [allIn, h3, Bool.and_true]
   exact decide_eq_true (.inr hv)
theorem chW_mem {ds : List Vl} {r : List Vl} (h : r ∈ (chW ds).1) : r.length = ds.length ∧ allIn r ds = true := by
 unfold chW at h
 split at h
 ·cases h
 ·obtain ⟨q, hq, t, rfl, h2, h3⟩ := chGo_mem ds _ r h
  rw [List.mem_singleton] at hq
  subst hq
  exact ⟨h2, h3⟩
def prodN (ds : List Vl) (f : Vl → Nat) : Nat := match ds with | [] => 1 | d :: ds => f d * prodN ds f
theorem chGo_len : ∀ (ds : List Vl) (out : List (List Vl)), (chGo ds out).2 = true → (chGo ds out).1.length = out.length * prodN ds (fun d => (prtW d).length)
 | [], out, _ => by simp [chGo, prodN]
 | d :: ds, out, h => by
  rw [chGo] at h ⊢
  split at h
  ·cases h
  ·rename_i hc
   rw [if_neg hc, chGo_len ds _ h, chStep_len, prodN, Nat.mul_assoc]
theorem chW_len {ds : List Vl} (h : (chW ds).2 = true) : (chW ds).1.length = prodN ds (fun d => (prtW d).length) := by
 unfold chW at h ⊢
 split
 ·rename_i hz
  obtain ⟨d, hd, hz⟩ := List.any_eq_true.1 hz
  have hz := of_decide_eq_true hz
  have key : ∀ ds : List Vl, d ∈ ds → prodN ds (fun d => (prtW d).length) = 0 := by
   intro ds
   induction ds with
   | nil => intro hd; cases hd
   | cons e ds ih =>
    intro hd
    rw [prodN]
    rcases List.mem_cons.1 hd with rfl | hd
    ·rw [hz, Nat.zero_mul]
    ·rw [ih hd, Nat.mul_zero]
  rw [key ds hd]; rfl
 ·rename_i hz
  rw [if_neg hz] at h
  have := chGo_len ds [[]] h
  simpa using this
end Go.Proofs.YtjlbdhicabgliaaGreat
/- The events: each complete, each once, in order, as many as there should be. -/
namespace Go.Proofs.YtjlbdhicabgliaaGreat
attribute [local irreducible] FU

theorem raw_inv {c : UInt8} {l : List Vl} (hc : 3 ≤ c.toNat ∧ c.toNat ≤ 9) (hl : l.length ≤ 65535) (hx : ∀ x ∈ l, Vd x) (h : Vd (raw c l)) : ∀ x ∈ l, IsV 31 x := by
 have hp := prt_raw hc hl hx
 obtain ⟨hv, _⟩ := h
 unfold raw at hv hp
 generalize u8i ((l.length / 256 : Nat) : Int) = a at hv hp
 generalize u8i ((l.length : Nat) : Int) = b at hv hp
 generalize hw : c :: a :: b :: l.flatten = w at hv hp
 cases hv with
 | int k q hb => injection hw with e; subst e; simp at hc
 | bool k q hb => injection hw with e; subst e; simp at hc
 | name k h l => injection hw with e; subst e; simp at hc
 | comp k c' h' l' ps hc' hn hps hf =>
  rw [prt_comp hc' hn (fun p hp' => (hps p hp').sh) (by omega)] at hp
  subst hp
  exact hps
theorem name_Vd (k : Int) : Vd (nameW k) := ⟨(nameW_IsV k 0).le (by omega), by simp [nameW]⟩
theorem compl_ok {l : List Inf} {n : Nat} (hn : n < l.length) (h : (complW l n []).2 = 0) : (chW (l[n]).2.2.2).2 = true ∧ (complW l n []).1 = (chW (l[n]).2.2.2).1.map (dotW n) ∧ ∀ r ∈ (chW (l[n]).2.2.2).1, dotW n r ≠ [] := by
 unfold complW at h ⊢
 rw [gi_nat hn, List.length_nil, List.drop_zero] at h ⊢
 simp only [] at h ⊢
 cases hc : (chW (l[n]).2.2.2).2 with
 | false => rw [hc] at h; simp at h
 | true =>
  rw [hc, if_pos rfl] at h
  rw [if_pos rfl]
  unfold comW at h ⊢
  simp only [List.nil_append] at h ⊢
  split at h
  ·simp at h
  ·rename_i ha
   rw [if_neg ha]
   refine ⟨trivial, rfl, fun r hr he => ha (List.any_eq_true.2 ⟨r, hr, decide_eq_true he⟩)⟩
theorem dom_ok {l : List Inf} (hv : validB l = true) {n : Nat} (hn : n < l.length) : (∀ d ∈ (l[n]).2.2.2, okD d = true) ∧ (l[n]).2.2.2.length ≤ 8 := by
 unfold validB at hv
 simp only [Bool.and_eq_true, List.all_eq_true] at hv
 have := hv.1 _ (List.getElem_mem hn)
 unfold okI at this
 simp only [Bool.and_eq_true, decide_eq_true_eq, List.all_eq_true] at this
 exact ⟨this.2.2, this.2.1⟩
end Go.Proofs.YtjlbdhicabgliaaGreat
/- The loops of the law on events. -/
namespace Go.Proofs.YtjlbdhicabgliaaGreat
attribute [local irreducible] FU

theorem dom_prt {d : Vl} (h : DomOK d) : (prtW d).length ≤ 4 := by
 rcases h with rfl | ⟨L, rfl, hL, hx⟩
 ·unfold prtW; rw [vldB_no (fun hv => hv.ne rfl)]; simp
 ·unfold setW prtW
  split
  ·rename_i hv
   by_cases he : cmpd 5 (sortW L) = []
   ·rw [he] at hv; exact absurd rfl ((vldB_iff.1 hv).ne)
   ·have hh := cmpd_ne.1 he
    rw [cmpd_yes hh, prt_raw (by decide) hh.1 hh.2.1]
    have := (sortW_spec L).2.2
    omega
  ·simp
end Go.Proofs.YtjlbdhicabgliaaGreat
/- The law DataspaceEventsOnce, but for the fixed example. -/
namespace Go.Proofs.YtjlbdhicabgliaaGreat
attribute [local irreducible] FU

theorem evGo_len : ∀ (l xs : List Inf) (i : Nat) (out : List Vl), out.length ≤ 1024 → (evGo l xs i out).1.length ≤ 1024
 | l, [], i, out, h => h
 | l, x :: xs, i, out, h => by
  rw [evGo]
  split
  ·split
   ·split
    ·simp
    ·exact evGo_len l xs _ _ (by omega)
   ·simp
  ·exact evGo_len l xs _ _ h
theorem evW_len (l : List Inf) : (evW l).1.length ≤ 1024 := by
 unfold evW
 split
 ·split
  ·simp
  ·exact evGo_len _ _ _ _ (by simp)
 ·simp
end Go.Proofs.YtjlbdhicabgliaaGreat
/- Join; the fixed example. -/
namespace Go.Proofs.YtjlbdhicabgliaaGreat
attribute [local irreducible] FU

theorem dots_mem {v x : Vl} (h : x ∈ (dots v).2.1) : Vd x := by
 unfold dots at h
 split at h
 ·exact (prtW_spec v).1 x (List.mem_of_mem_drop h)
 ·cases h
noncomputable def joinW (l : List Inf) (a b : Vl) : Vl × Int :=
 if validB l = false then ([], 1) else if (dots a).2.2 = false ∨ vldB b = false then ([], 6) else if belB l a = false then ([], 18)
 else match (gi l (dots a).1).2.2.2.drop (dots a).2.1.length with
  | [] => ([], 6)
  | d :: _ => if inB d b = false then ([], 18) else if cmpd 7 (nameW (dots a).1 :: ((dots a).2.1 ++ [b])) = [] then ([], 9) else (cmpd 7 (nameW (dots a).1 :: ((dots a).2.1 ++ [b])), 0)
theorem vJoin (l : List Inf) (a b : Vl) (hl : l.length ≤ 9223372036854775807) : m_dataspace_Join l a b = some (joinW l a b) := by
 unfold m_dataspace_Join joinW
 have hd := dots_num a
 have hn := dots_len a
 rw [vSplit, zai, vValidL l hl, zai]
 cases hv : validB l with
 | false => rfl
 | true =>
  simp only [jn_eq]
  rw [if_neg (show ¬ (!true) = true by simp), if_neg (show ¬ true = false by simp)]
  cases ho : (dots a).2.2 with
  | false => rfl
  | true =>
   rw [if_neg (show ¬ (!true) = true by simp), vValid, zai]
   cases hvb : vldB b with
   | false => rfl
   | true =>
    rw [if_neg (show ¬ (!true) = true by simp), if_neg (show ¬ (true = false ∨ true = false) by simp), vBelongs, zai]
    cases hB : belB l a with
    | false => rfl
    | true =>
     rw [if_neg (show ¬ (!true) = true by simp), if_neg (show ¬ true = false by simp)]
     have hB' := hB
     unfold belB at hB'
     simp only [Bool.and_eq_true, decide_eq_true_eq] at hB'
     obtain ⟨n, hnn⟩ : ∃ n : Nat, (dots a).1 = n := ⟨(dots a).1.toNat, by omega⟩
     obtain ⟨_, h1, h2, _⟩ := hB'
     rw [hnn] at h1 h2 ⊢
     have hnl : n < l.length := by omega
     rw [gi_nat hnl] at h2 ⊢
     have hm := vMissing (l := l) (v := a) (n := n) (f := (dots a).2.1) (b := (dots a).2.2) (by rw [← hnn]) hnl h2
     rw [hm, zai]
     generalize (l[n]).2.2.2.drop (dots a).2.1.length = ms at hm
     cases ms with
     | nil => rfl
     | cons d ms =>
      rw [if_neg (by simp; omega), zai, zak (by simp), show gi (d :: ms) 0 = d from rfl]
      simp only []
      have hdot := pDot (k := (n : Int)) (by omega) (by omega) ((dots a).2.1 ++ [b]) (by simp; omega) (fun x hx => by
       rcases List.mem_append.1 hx with hx | hx
       ·have := (dots_mem hx).2; omega
       ·rw [List.mem_singleton] at hx; subst hx; have := (vldB_iff.1 hvb).2; omega)
      have go : bnd1 (m_slices_Clone_L_api_Value_api_Value (dots a).2.1) (fun y30 => need (List.length y30 + List.length [b] ≤ 137438953472) (bnd1 (m_value_Dot (n : Int) (y30 ++ [b])) (fun y34 => if y34 = ([] : List UInt8) then (some (([] : List UInt8), (9 : Int))) else (some (y34, 0))))) = some (if cmpd 7 (nameW (n : Int) :: ((dots a).2.1 ++ [b])) = [] then ([], 9) else (cmpd 7 (nameW (n : Int) :: ((dots a).2.1 ++ [b])), 0)) := by
       rw [vClone _ (by omega), zai, zak (by simp; omega), hdot, zai]
       split <;> rfl
      unfold inB
      by_cases h0 : d = []
      ·rw [if_neg (by simpa using h0), if_neg Bool.false_ne_true, decide_eq_true (.inl h0), if_neg (by simp)]
       exact go
      ·have hpl := (prtW_spec d).2.1
       rw [if_pos h0, vPartsW, zai, vContainsV _ _ (by omega), zai]
       by_cases hmm : b ∈ prtW d
       ·rw [decide_eq_true hmm, decide_eq_true (.inr hmm), if_neg (by simp), if_neg (by simp)]
        exact go
       ·rw [decide_eq_false hmm, decide_eq_false (fun h => h.elim h0 hmm), if_pos (by simp), if_pos rfl]
theorem dot_small {n : Nat} {r : List Vl} (h : ∀ x ∈ r, IsV 31 x ∧ x.length ≤ 9) (hl : r.length ≤ 8) : dotW n r ≠ [] := by
 have hfl : r.flatten.length ≤ 9 * r.length := flat_le (fun x hx => (h x hx).2)
 refine cmpd_ne.2 ⟨by simp; omega, fun x hx => ?_, ?_, ?_⟩
 ·rcases List.mem_cons.1 hx with rfl | hx
  ·exact name_Vd n
  ·exact ⟨(h x hx).1.mono, by have := (h x hx).2; omega⟩
 ·refine .comp 31 7 _ _ (nameW n :: r) (by decide) (raw_count (by simp; omega)) (fun p hp => ?_) ?_
  ·rcases List.mem_cons.1 hp with rfl | hp
   ·exact (nameW_IsV n 0).le (by omega)
   ·exact (h p hp).1
  ·simp [formedB, gi2_00, nameW]; omega
 ·rw [raw_len, List.flatten_cons, List.length_append]; have : (nameW (n : Int)).length = 3 := rfl; omega
theorem awake11_true : m_law11_awake = some true := by
 have hZ := run_set (a := 0) (m := 2) (by omega) (by omega)
 have hR := rRange (a := 0) (b := 1) (by omega) (by omega)
 rw [if_neg (by omega), show ((1 : Int) - 0 + 1).toNat = 2 from rfl, hZ.1] at hR
 obtain ⟨_, z2, z3, z4, z5⟩ := hZ
 have hrun : runW 0 2 = [intW 0, intW 1] := rfl
 generalize hZe : setW (runW 0 2) = Z at hR z2 z3 z5
 have zlen : (prtW Z).length = 2 := by rw [z2]; exact z4
 have zmem : ∀ x, x ∈ prtW Z ↔ x = intW 0 ∨ x = intW 1 := fun x => by rw [z2, (sortW_spec _).2.1, hrun]; simp
 have zne : Z ≠ [] := fun e => by have := z5.sh.len; rw [e] at this; simp at this
 have zk : kindW Z = 5 := of_decide_eq_true z3
 have zok : okD Z = true := decide_eq_true (.inr zk)
 unfold m_law11_awake
 rw [hR, zai]
 simp only []
 generalize hA : ([([99], (-1 : Int), [], [Z, Z])] : List Inf) = A
 have hAl : A.length = 1 := by rw [← hA]; rfl
 have hA0 : ∀ h : 0 < A.length, (A[0]'h).2.2.2 = [Z, Z] ∧ (A[0]'h).2.1 = -1 := fun h => by subst hA; exact ⟨rfl, rfl⟩
 have hv : validB A = true := by subst hA; simp [validB, okI, zok]
 have hsm : ∀ r ∈ (chW [Z, Z]).1, ∀ x ∈ r, IsV 31 x ∧ x.length ≤ 9 := fun r hr x hx => by
  obtain ⟨m1, m2⟩ := chW_mem hr
  have hx' : x ∈ prtW Z := by
   match r, m1, m2, hx with
   | [a, b], _, m2, hx =>
    simp only [allIn, inB, Bool.and_true, Bool.and_eq_true, decide_eq_true_eq] at m2
    simp at hx
    rcases hx with rfl | rfl
    ·exact m2.1.resolve_left zne
    ·exact m2.2.resolve_left zne
  rcases (zmem x).1 hx' with rfl | rfl
  ·exact ⟨(intW_IsV 0 0).le (by omega), by rw [intW_len]; omega⟩
  ·exact ⟨(intW_IsV 1 0).le (by omega), by rw [intW_len]; omega⟩
 have hch : (chW [Z, Z]).2 = true := by
  unfold chW
  have zn : prtW Z ≠ [] := fun h => by rw [h] at zlen; cases zlen
  rw [if_neg (by simp [zn]), chGo, if_neg (by simp [zlen]), chGo, if_neg (by rw [chStep_len, zlen]; simp)]; rfl
 have hcom : (complW A 0 []).2 = 0 := by
  unfold complW
  rw [gi_nat (by omega : 0 < A.length), (hA0 _).1, List.length_nil, List.drop_zero]
  simp only []
  rw [hch, if_pos rfl]
  unfold comW
  rw [if_neg]
  intro h
  obtain ⟨r, hr, he⟩ := List.any_eq_true.1 h
  exact dot_small (n := 0) (hsm r hr) (by have := (chW_mem hr).1; simp at this; omega) (of_decide_eq_true he)
 have hcl : (complW A 0 []).1.length = 4 := by
  rw [(compl_ok (by omega : 0 < A.length) hcom).2.1, List.length_map, (hA0 _).1, chW_len hch]
  simp [prodN, zlen]
 have hev : (evW A).2 = 0 ∧ (evW A).1.length = 4 := by
  unfold evW
  rw [hv, if_pos rfl, if_neg (by subst hA; simpa using zne)]
  have e : evGo A A 0 [] = ((complW A 0 []).1, 0) := by
   have : ∃ x, A = [x] ∧ x.2.1 = -1 := by subst hA; exact ⟨_, rfl, rfl⟩
   obtain ⟨x, hx, hx1⟩ := this
   have : evGo A [x] 0 [] = ((complW A 0 []).1, 0) := by
    rw [evGo, if_pos hx1, if_pos hcom, List.nil_append, if_neg (by omega), evGo]
   rw [← hx] at this
   exact this
  rw [e]
  exact ⟨rfl, hcl⟩
 have hd0 := dots_dot (n := 0) (by omega) (dot0_ne 0)
 have hbel0 : belB A (dotW 0 []) = true := by
  unfold belB
  rw [hd0]
  subst hA
  simp [allIn]
 have i1 : Vd (intW 1) := ⟨(intW_IsV 1 0).le (by omega), by rw [intW_len]; omega⟩
 have i2 : Vd (intW 2) := ⟨(intW_IsV 2 0).le (by omega), by rw [intW_len]; omega⟩
 have n2 : intW 2 ∉ prtW Z := fun h => by
  rcases (zmem _).1 h with h | h
  ·have := congrArg numV h
   rw [numV_intW (by omega), numV_intW (by omega)] at this; omega
  ·have := congrArg numV h
   rw [numV_intW (by omega), numV_intW (by omega)] at this; omega
 have d1 : dotW 0 [intW 1] ≠ [] := dot_small (fun x hx => by rw [List.mem_singleton] at hx; subst hx; exact ⟨(intW_IsV 1 0).le (by omega), by rw [intW_len]; omega⟩) (by simp)
 have hgA : (gi A ((0 : Nat) : Int)).2.2.2 = [Z, Z] := by rw [gi_nat (by omega : 0 < A.length)]; exact (hA0 _).1
 have j1 : joinW A (dotW 0 []) (intW 1) = (dotW 0 [intW 1], 0) := by
  unfold joinW
  rw [hv, if_neg (by simp), hd0, vldB_iff.2 i1, if_neg (by simp), hbel0, if_neg (by simp)]
  simp only []
  rw [hgA, List.length_nil, List.drop_zero]
  simp only []
  rw [if_neg (by simp [inB, (zmem _).2 (.inr rfl)]), List.nil_append, if_neg d1]
 have j2 : joinW A (dotW 0 []) (intW 2) = ([], 18) := by
  unfold joinW
  rw [hv, if_neg (by simp), hd0, vldB_iff.2 i2, if_neg (by simp), hbel0, if_neg (by simp)]
  simp only []
  rw [hgA, List.length_nil, List.drop_zero]
  simp only []
  rw [if_pos (by simp [inB, n2, zne])]
 have hcp : cplB A (dotW 0 [intW 1]) = false := by
  unfold cplB
  rw [dots_dot (by omega) d1, hgA]
  simp
 have r0 : m_ref9_Dot 0 [] = some (dotW 0 []) := rDotW (k := 0) (by omega) (by omega) [] (by simp)
 have r1 : m_ref9_Dot 0 [intW 1] = some (dotW 0 [intW 1]) := rDotW (k := 0) (by omega) (by omega) [intW 1] (by simp)
 simp only [jn_eq]
 rw [vEvents A (by omega), zai, r0, zai, rInt, zai, vJoin A _ _ (by omega), zai, zai, rInt, zai, vJoin A _ _ (by omega), zai, vValidL A (by omega), zai, hv, if_pos rfl, if_pos hev.1, if_pos (by omega), j1, j2]
 simp only []
 rw [if_pos trivial, zai, r1, zai, if_pos rfl, if_pos trivial, vCompleteB A _ (by omega), zai, hcp]; rfl
end Go.Proofs.YtjlbdhicabgliaaGreat
/- Products and choices; sets of sequences beside sets of dotted values. -/
namespace Go.Proofs.YtjlbdhicabgliaaGreat
attribute [local irreducible] FU

theorem raw_invK {c : UInt8} {l : List Vl} {k : Nat} (hk : k ≤ 31) (hc : 3 ≤ c.toNat ∧ c.toNat ≤ 9) (hl : l.length ≤ 65535) (hx : ∀ x ∈ l, Vd x) (hv : IsV (k + 1) (raw c l)) : ∀ x ∈ l, IsV k x := by
 have hp := prt_raw hc hl hx
 unfold raw at hv hp
 generalize u8i ((l.length / 256 : Nat) : Int) = a at hv hp
 generalize u8i ((l.length : Nat) : Int) = b at hv hp
 generalize hw : c :: a :: b :: l.flatten = w at hv hp
 cases hv with
 | int k q hb => injection hw with e; subst e; simp at hc
 | bool k q hb => injection hw with e; subst e; simp at hc
 | name k h l => injection hw with e; subst e; simp at hc
 | comp k c' h' l' ps hc' hn hps hf =>
  rw [prt_comp hc' hn (fun p hp' => (hps p hp').sh) (by omega)] at hp
  subst hp
  exact hps
theorem perm_flat {a b : List Vl} (h : a.Perm b) : a.flatten.length = b.flatten.length := by
 induction h with
 | nil => rfl
 | cons x _ ih => rw [List.flatten_cons, List.flatten_cons, List.length_append, List.length_append, ih]
 | swap x y l => simp only [List.flatten_cons, List.length_append]; omega
 | trans _ _ h1 h2 => omega
theorem inj_flat {α : Type} (p q : α → Vl) : ∀ (L : List α) (S : List Vl), (∀ a ∈ L, (p a).length ≤ (q a).length) → (L.map q).Nodup → (∀ a ∈ L, q a ∈ S) → (L.map p).flatten.length ≤ S.flatten.length ∧ L.length ≤ S.length
 | [], S, _, _, _ => by simp
 | a :: L, S, hp, hn, hS => by
  rw [List.map_cons, List.nodup_cons] at hn
  have ha := hS a (by simp)
  have hperm := List.perm_cons_erase ha
  have e1 := perm_flat hperm
  have e2 := hperm.length_eq
  obtain ⟨i1, i2⟩ := inj_flat p q L (S.erase (q a)) (fun b hb => hp b (by simp [hb])) hn.2 (fun b hb => (List.mem_erase_of_ne (fun e => hn.1 (by rw [← e]; exact List.mem_map_of_mem hb))).2 (hS b (by simp [hb])))
  have h0 := hp a (by simp)
  rw [List.flatten_cons, List.length_append] at e1
  rw [List.map_cons, List.flatten_cons, List.length_append]
  simp only [List.length_cons] at e2 ⊢
  omega
theorem seqs_ok {n : Nat} (hn : n ≤ 65535) {f : List Vl} {rows : List (List Vl)} {S : List Vl} (hne : ∀ r ∈ rows, dotW n (f ++ r) ≠ []) (hS : ∀ r ∈ rows, dotW n (f ++ r) ∈ S) (h : setW S ≠ []) : setW (rows.map (cmpd 4)) ≠ [] := by
 obtain ⟨c1, c2, c3⟩ := cmpd_ne.1 h
 have hI : ∀ x ∈ sortW S, IsV 31 x := raw_inv (by decide) c1 c2 c3
 have hrow : ∀ r ∈ rows, cmpd 4 r = raw 4 r ∧ IsV 31 (raw 4 r) ∧ prtW (raw 4 r) = r ∧ (raw 4 r).length ≤ (dotW n (f ++ r)).length := fun r hr => by
  have d := cmpd_ne.1 (hne r hr)
  have e : dotW n (f ++ r) = raw 7 (nameW n :: (f ++ r)) := cmpd_yes d
  have hm := hI _ (((sortW_spec S).2.1 _).2 (hS r hr))
  rw [e] at hm
  have hp := raw_invK (k := 30) (by omega) (by decide) d.1 d.2.1 hm
  have hlen := d.2.2.2
  have hl1 := d.1
  rw [raw_len, List.flatten_cons, List.length_append, List.flatten_append, List.length_append] at hlen
  rw [List.length_cons, List.length_append] at hl1
  obtain ⟨q1, q2, q3, _, _⟩ := comp_ok (c := 4) (by decide) (k := 30) (by omega) (l := r) (fun x hx => hp x (by simp [hx])) (by omega) (by omega) (by simp [formedB])
  refine ⟨q1, q2, q3, ?_⟩
  rw [e, raw_len, raw_len, List.flatten_cons, List.length_append, List.flatten_append, List.length_append]
  omega
 have hmem : ∀ y ∈ sortW (rows.map (cmpd 4)), ∃ r ∈ rows, y = raw 4 r := fun y hy => by
  obtain ⟨r, hr, e⟩ := List.mem_map.1 (((sortW_spec _).2.1 y).1 hy)
  exact ⟨r, hr, by rw [← e, (hrow r hr).1]⟩
 have hnd : ((sortW (rows.map (cmpd 4))).map (fun y => dotW n (f ++ prtW y))).Nodup := by
  have h0 := slc_nodup (sortW_spec (rows.map (cmpd 4))).1
  have : ∀ L : List Vl, (∀ y ∈ L, ∃ r ∈ rows, y = raw 4 r) → L.Nodup → (L.map (fun y => dotW n (f ++ prtW y))).Nodup := by
   intro L
   induction L with
   | nil => intro _ _; simp
   | cons y L ih =>
    intro hm hn'
    rw [List.nodup_cons] at hn'
    rw [List.map_cons, List.nodup_cons]
    refine ⟨fun hc => ?_, ih (fun z hz => hm z (by simp [hz])) hn'.2⟩
    obtain ⟨z, hz, ez⟩ := List.mem_map.1 hc
    obtain ⟨r, hr, rfl⟩ := hm y (by simp)
    obtain ⟨r', hr', rfl⟩ := hm z (by simp [hz])
    rw [(hrow r hr).2.2.1, (hrow r' hr').2.2.1] at ez
    have d1 := dots_dot hn (hne r hr)
    rw [← ez, dots_dot hn (hne r' hr')] at d1
    have : f ++ r' = f ++ r := congrArg (fun z => z.2.1) d1
    have := List.append_cancel_left this
    subst this
    exact hn'.1 hz
  exact this _ hmem h0
 obtain ⟨i1, i2⟩ := inj_flat (fun y => y) (fun y => dotW n (f ++ prtW y)) (sortW (rows.map (cmpd 4))) (sortW S) (fun y hy => by
  obtain ⟨r, hr, rfl⟩ := hmem y hy
  rw [(hrow r hr).2.2.1]; exact (hrow r hr).2.2.2) hnd (fun y hy => by
  obtain ⟨r, hr, rfl⟩ := hmem y hy
  rw [(hrow r hr).2.2.1]; exact ((sortW_spec S).2.1 _).2 (hS r hr))
 rw [List.map_id'] at i1
 have hlen := c3.2
 rw [raw_len] at hlen
 exact (set_ok (k := 31) (by omega) (fun x hx => by
  obtain ⟨r, hr, e⟩ := List.mem_map.1 hx
  rw [← e, (hrow r hr).1]; exact (hrow r hr).2.1) (by omega) (by omega)).2.2.2.2.1
theorem cntR_app : ∀ (A R : List (List (List UInt8))), (∀ m ∈ A, 0 < m.length) → cntR R ≤ cntR (A ++ R)
 | [], _, _ => Nat.le_refl _
 | m :: A, R, h => by
  have := cntR_app A R (fun q hq => h q (by simp [hq]))
  rw [List.cons_append, cntR]
  exact Nat.le_trans this (Nat.le_mul_of_pos_right _ (h m (by simp)))
theorem chGo_rows : ∀ (ds : List Vl) (R : List (List (List UInt8))), (∀ d ∈ ds, 0 < (prtW d).length) → cntR R ≤ 4096 → chGo ds (rowsR R) = if cntR ((ds.map prtW).reverse ++ R) ≤ 4096 then (rowsR ((ds.map prtW).reverse ++ R), true) else ([], false)
 | [], R, _, h => by rw [chGo]; simp [h]
 | d :: ds, R, hp, h => by
  have e : ((d :: ds).map prtW).reverse ++ R = (ds.map prtW).reverse ++ (prtW d :: R) := by simp
  have hd : ∀ q ∈ ds, 0 < (prtW q).length := fun q hq => hp q (by simp [hq])
  have hc : (rowsR R).length * (prtW d).length = cntR (prtW d :: R) := by rw [rowsR_len, cntR]
  rw [chGo, hc, e]
  by_cases h4 : 4096 < cntR (prtW d :: R)
  ·have := cntR_app (ds.map prtW).reverse (prtW d :: R) (fun m hm => by
    obtain ⟨q, hq, rfl⟩ := List.mem_map.1 (List.mem_reverse.1 hm)
    exact hd q hq)
   rw [if_pos h4, if_neg (by omega)]
  ·rw [if_neg h4]
   exact chGo_rows ds (prtW d :: R) hd (by omega)
theorem chW_rows (ds : List Vl) : chW ds = if (ds.map prtW).all (fun m => decide (0 < m.length)) = true then (if cntR (ds.map prtW).reverse ≤ 4096 then (rowsR (ds.map prtW).reverse, true) else ([], false)) else ([], true) := by
 unfold chW
 by_cases h : ∀ d ∈ ds, 0 < (prtW d).length
 ·rw [if_neg (fun hc => by
   obtain ⟨d, hd, e⟩ := List.any_eq_true.1 hc
   have := h d hd; have := of_decide_eq_true e; omega), if_pos (List.all_eq_true.2 (fun m hm => by
   obtain ⟨d, hd, rfl⟩ := List.mem_map.1 hm
   exact decide_eq_true (h d hd)))]
  have := chGo_rows ds [] h (by decide)
  rw [List.append_nil] at this
  exact this
 ·rw [if_pos, if_neg]
  ·intro hc
   apply h
   intro d hd
   exact of_decide_eq_true (List.all_eq_true.1 hc _ (List.mem_map_of_mem hd))
  ·apply List.any_eq_true.2
   refine Classical.byContradiction fun hc => h fun d hd => ?_
   refine Nat.pos_of_ne_zero fun e => hc ⟨d, hd, decide_eq_true e⟩
theorem prt_setW {l : List Vl} (h : setW l ≠ []) : prtW (setW l) = sortW l ∧ ∀ x ∈ l, Vd x := by
 obtain ⟨c1, c2, c3⟩ := cmpd_ne.1 h
 refine ⟨?_, fun x hx => c2 x (((sortW_spec l).2.1 x).2 hx)⟩
 rw [show setW l = raw 5 (sortW l) from cmpd_yes ⟨c1, c2, c3⟩]
 unfold prtW
 rw [if_pos (vldB_iff.2 c3)]
 exact prt_raw (by decide) c1 c2
noncomputable def cW (n : Nat) (f ds : List Vl) : List Vl × Int := if (chW ds).2 = true then comW n f (chW ds).1 else ([], 9)
theorem complW_eq (l : List Inf) (n : Nat) (f : List Vl) : complW l n f = cW n f ((gi l (n : Int)).2.2.2.drop f.length) := rfl
noncomputable def rW (n : Nat) (f ds : List Vl) : List Vl × Int := if (pdW ds).2 ≠ 0 then ([], (pdW ds).2) else comW n f ((prtW (pdW ds).1).map prtW)
theorem comW_mem {n : Nat} {f : List Vl} {R R' : List (List Vl)} (h : ∀ r, r ∈ R ↔ r ∈ R') : (comW n f R).2 = (comW n f R').2 ∧ ∀ x, x ∈ (comW n f R).1 ↔ x ∈ (comW n f R').1 := by
 unfold comW
 have : R.any (fun r => decide (dotW n (f ++ r) = [])) = R'.any (fun r => decide (dotW n (f ++ r) = [])) := by
  rw [Bool.eq_iff_iff, List.any_eq_true, List.any_eq_true]
  exact ⟨fun ⟨r, hr, e⟩ => ⟨r, (h r).1 hr, e⟩, fun ⟨r, hr, e⟩ => ⟨r, (h r).2 hr, e⟩⟩
 rw [this]
 split
 ·exact ⟨rfl, fun _ => Iff.rfl⟩
 ·refine ⟨rfl, fun x => ?_⟩
  simp only [List.mem_map]
  exact ⟨fun ⟨r, hr, e⟩ => ⟨r, (h r).1 hr, e⟩, fun ⟨r, hr, e⟩ => ⟨r, (h r).2 hr, e⟩⟩
theorem comW_cases (n : Nat) (f : List Vl) (R : List (List Vl)) : (comW n f R = ([], 9)) ∨ (comW n f R = (R.map (fun r => dotW n (f ++ r)), 0) ∧ ∀ r ∈ R, dotW n (f ++ r) ≠ []) := by
 unfold comW
 split
 ·exact .inl rfl
 ·rename_i h
  exact .inr ⟨rfl, fun r hr e => h (List.any_eq_true.2 ⟨r, hr, decide_eq_true e⟩)⟩
theorem cW_cases (n : Nat) (f ds : List Vl) : (cW n f ds).2 = 0 ∨ (cW n f ds).2 = 9 := by
 unfold cW
 split
 ·rcases comW_cases n f (chW ds).1 with h | h
  ·rw [h]; exact .inr rfl
  ·rw [h.1]; exact .inl rfl
 ·exact .inr rfl
theorem sortW_nil : sortW [] = [] := List.eq_nil_of_length_eq_zero (Nat.le_zero.1 (sortW_spec []).2.2)
theorem cr {n : Nat} (hn : n ≤ 65535) (f : List Vl) {ds : List Vl} (hs : ds.all isSet = true) :
  ((cW n f ds).2 = 0 ∧ (rW n f ds).2 = 0 ∧ ∀ x, x ∈ (rW n f ds).1 ↔ x ∈ (cW n f ds).1) ∨ ((cW n f ds).2 = 0 ∧ (rW n f ds).2 = 9 ∧ ∀ S, (∀ x ∈ (cW n f ds).1, x ∈ S) → setW S = []) ∨ ((cW n f ds).2 = 9 ∧ (rW n f ds).2 = 9) := by
 unfold rW cW pdW
 rw [chW_rows, if_pos hs]
 by_cases ha : (ds.map prtW).all (fun m => decide (0 < m.length)) = true
 ·rw [if_pos ha, if_pos ha]
  by_cases h4 : 4096 < cntR (ds.map prtW).reverse
  ·rw [if_pos h4, if_neg (show ¬ cntR (ds.map prtW).reverse ≤ 4096 by omega)]
   exact .inr (.inr ⟨rfl, rfl⟩)
  ·rw [if_neg h4, if_pos (show cntR (ds.map prtW).reverse ≤ 4096 by omega), if_pos rfl]
   have hlen := rowsR_len (ds.map prtW).reverse
   generalize rowsR (ds.map prtW).reverse = rows at hlen ⊢
   by_cases hse : setW (rows.map (cmpd 4)) = []
   ·have e : bndW (rows.map (cmpd 4)) = ([], 9) := by unfold bndW; rw [if_pos (.inr hse)]
    rw [e]
    rcases comW_cases n f rows with h | ⟨h, hne⟩
    ·rw [h]; exact .inr (.inr ⟨rfl, rfl⟩)
    ·refine .inr (.inl ⟨by rw [h], rfl, fun S hS => Classical.byContradiction fun hc => ?_⟩)
     rw [h] at hS
     exact seqs_ok hn hne (fun r hr => hS _ (List.mem_map_of_mem (f := fun r => dotW n (f ++ r)) hr)) hc hse
   ·have hsl := (sortW_spec (rows.map (cmpd 4))).2.2
    rw [List.length_map] at hsl
    have e := bnd_ok (l := rows.map (cmpd 4)) (by omega) hse
    rw [e]
    obtain ⟨p1, p2⟩ := prt_setW hse
    simp only []
    rw [if_neg (by simp), p1]
    have hm : ∀ r, r ∈ (sortW (rows.map (cmpd 4))).map prtW ↔ r ∈ rows := fun r => by
     have hrow : ∀ q ∈ rows, prtW (cmpd 4 q) = q := fun q hq => by
      have hV := p2 _ (List.mem_map_of_mem hq)
      have d := cmpd_ne.1 hV.ne
      rw [cmpd_yes d]
      unfold prtW; rw [if_pos (vldB_iff.2 d.2.2)]
      exact prt_raw (by decide) d.1 d.2.1
     rw [List.mem_map]
     constructor
     ·rintro ⟨x, hx, rfl⟩
      obtain ⟨q, hq, rfl⟩ := List.mem_map.1 (((sortW_spec _).2.1 x).1 hx)
      rw [hrow q hq]; exact hq
     ·intro hr
      exact ⟨cmpd 4 r, ((sortW_spec _).2.1 _).2 (List.mem_map_of_mem hr), hrow r hr⟩
    obtain ⟨m1, m2⟩ := comW_mem (n := n) (f := f) hm
    rcases comW_cases n f rows with h | ⟨h, _⟩
    ·rw [h] at m1 ⊢; exact .inr (.inr ⟨rfl, m1⟩)
    ·refine .inl ⟨by rw [h], by rw [m1, h], m2⟩
 ·rw [if_neg ha, if_neg ha, if_pos rfl]
  have e0 : prtW (setW []) = [] := by
   rw [(set_ok (k := 31) (l := []) (by omega) (by simp) (by rw [sortW_nil]; simp) (by rw [sortW_nil]; simp)).2.2.1, sortW_nil]
  simp only []
  rw [if_neg (by simp), e0]
  exact .inl ⟨by simp [comW], by simp [comW], fun x => by simp [comW]⟩
theorem sortW_mono {a b : List Vl} (h : ∀ x ∈ a, x ∈ b) : (sortW a).length ≤ (sortW b).length :=
 nodup_len (slc_nodup (sortW_spec a).1) (fun x hx => ((sortW_spec b).2.1 x).2 (h x (((sortW_spec a).2.1 x).1 hx)))
noncomputable def allGo (c : Vl → List Vl × Int) : List Vl → List Vl → Vl × Int
 | [], out => bndW out
 | v :: vs, out => if (c v).2 ≠ 0 then ([], (c v).2) else if 4096 < (sortW (out ++ (c v).1)).length then ([], 9) else allGo c vs (sortW (out ++ (c v).1))
noncomputable def allS (c : Vl → List Vl × Int) (vs out : List Vl) : Vl × Int := if vs.any (fun v => decide ((c v).2 ≠ 0)) = true then ([], 9) else bndW (out ++ vs.flatMap (fun v => (c v).1))
theorem allGo_eq (c : Vl → List Vl × Int) (hc : ∀ v, (c v).2 = 0 ∨ (c v).2 = 9) : ∀ (vs out : List Vl), allGo c vs out = allS c vs out
 | [], out => by rw [allGo, allS]; simp
 | v :: vs, out => by
  rw [allGo]
  unfold allS
  rw [List.any_cons, List.flatMap_cons]
  rcases hc v with h | h
  ·rw [if_neg (by rw [h]; simp), decide_eq_false (by rw [h]; simp), Bool.false_or]
   by_cases h4 : 4096 < (sortW (out ++ (c v).1)).length
   ·rw [if_pos h4]
    split
    ·rfl
    ·unfold bndW
     rw [if_pos (.inl (Nat.lt_of_lt_of_le h4 (sortW_mono (fun x hx => by
      rcases List.mem_append.1 hx with hx | hx
      ·simp [hx]
      ·simp [hx]))))]
   ·rw [if_neg h4, allGo_eq c hc vs]
    unfold allS
    split
    ·rfl
    ·refine bndW_congr (fun x => ?_)
     rw [List.mem_append, (sortW_spec _).2.1, List.mem_append, List.mem_append, List.mem_append, or_assoc]
  ·rw [if_pos (by rw [h]; simp), decide_eq_true (by rw [h]; simp), Bool.true_or, if_pos rfl, h]
theorem allS_congr {c r : Vl → List Vl × Int} {vs : List Vl} (h : ∀ v ∈ vs, ((c v).2 = 0 ∧ (r v).2 = 0 ∧ ∀ x, x ∈ (r v).1 ↔ x ∈ (c v).1) ∨ ((c v).2 = 0 ∧ (r v).2 = 9 ∧ ∀ S, (∀ x ∈ (c v).1, x ∈ S) → setW S = []) ∨ ((c v).2 = 9 ∧ (r v).2 = 9)) : allS c vs [] = allS r vs [] := by
 unfold allS
 rw [List.nil_append, List.nil_append]
 by_cases hr : vs.any (fun v => decide ((r v).2 ≠ 0)) = true
 ·rw [if_pos hr]
  by_cases hcc : vs.any (fun v => decide ((c v).2 ≠ 0)) = true
  ·rw [if_pos hcc]
  ·rw [if_neg hcc]
   obtain ⟨v, hv, e⟩ := List.any_eq_true.1 hr
   have e := of_decide_eq_true e
   have e' : (c v).2 = 0 := Classical.byContradiction fun hn => hcc (List.any_eq_true.2 ⟨v, hv, decide_eq_true hn⟩)
   rcases h v hv with ⟨_, h2, _⟩ | ⟨_, _, h3⟩ | ⟨h1, _⟩
   ·exact absurd h2 e
   ·unfold bndW
    rw [if_pos (.inr (h3 _ (fun x hx => List.mem_flatMap.2 ⟨v, hv, hx⟩)))]
   ·omega
 ·rw [if_neg hr, if_neg (fun hcc => by
   obtain ⟨v, hv, e⟩ := List.any_eq_true.1 hcc
   have e := of_decide_eq_true e
   have e' : (r v).2 = 0 := Classical.byContradiction fun hn => hr (List.any_eq_true.2 ⟨v, hv, decide_eq_true hn⟩)
   rcases h v hv with ⟨h1, _, _⟩ | ⟨h1, _, _⟩ | ⟨_, h2⟩ <;> omega)]
  refine bndW_congr (fun x => ?_)
  rw [List.mem_flatMap, List.mem_flatMap]
  have hz : ∀ v ∈ vs, ∀ x, x ∈ (r v).1 ↔ x ∈ (c v).1 := fun v hv => by
   have e' : (r v).2 = 0 := Classical.byContradiction fun hn => hr (List.any_eq_true.2 ⟨v, hv, decide_eq_true hn⟩)
   rcases h v hv with ⟨_, _, h3⟩ | ⟨_, h2, _⟩ | ⟨_, h2⟩
   ·exact h3
   ·omega
   ·omega
  exact ⟨fun ⟨v, hv, hx⟩ => ⟨v, hv, (hz v hv x).2 hx⟩, fun ⟨v, hv, hx⟩ => ⟨v, hv, (hz v hv x).1 hx⟩⟩
end Go.Proofs.YtjlbdhicabgliaaGreat
/- The reference's answers about lists of names: what they come to. -/
namespace Go.Proofs.YtjlbdhicabgliaaGreat
attribute [local irreducible] FU

theorem rNum (v : Vl) : m_ref9_Number v = some (numW v) := by
 unfold m_ref9_Number numW
 rw [rKind, zai]
 by_cases h1 : kindW v = 1
 ·rcases kind_shape (v := v) (by omega) with ⟨_, b, hb, rfl⟩ | ⟨h, _⟩ | ⟨h, _⟩ | h
  ·rw [if_pos h1, if_pos h1, zak (by simp [hb]), rNumber _ (by simp [hb]), zai, numV, List.take_of_length_le (by simp [hb])]; rfl
  ·omega
  ·omega
  ·omega
 rw [if_neg h1, if_neg h1]
 by_cases h2 : kindW v = 2
 ·rcases kind_shape (v := v) (by omega) with ⟨h, _⟩ | ⟨_, b, hb, rfl⟩ | ⟨h, _⟩ | h
  ·omega
  ·rw [if_pos h2, if_pos h2, zak (by simp)]
  ·omega
  ·omega
 rw [if_neg h2, if_neg h2]
 by_cases h3 : kindW v = 10
 ·rcases kind_shape (v := v) (by omega) with ⟨h, _⟩ | ⟨h, _⟩ | ⟨_, a, b, rfl⟩ | h
  ·omega
  ·omega
  ·rw [if_pos h3, if_pos h3, zak (by simp), zak (by simp), i64_step]
  ·omega
 rw [if_neg h3, if_neg h3]
theorem rvalid_in (a0 : List Inf) (p : Nat) (hp : p < a0.length) (k : Unit → Option Bool) (ds : List Vl) (hds : (a0[p]).2.2.2 = ds) (h8 : ds.length ≤ 8) : ∀ (m i n : Nat), i + m = ds.length → m < n → m_ref11_ValidNames_L14 a0 p k n i = if (ds.drop i).all okD then k () else some false := by
 intro m
 induction m with
 | zero =>
  intro i n hi hn
  obtain ⟨n, rfl⟩ : ∃ q, n = q + 1 := ⟨n - 1, by omega⟩
  rw [m_ref11_ValidNames_L14, m_ref11_ValidNames_B14, zak (by omega), gi_nat hp, hds, if_neg (by omega), List.drop_eq_nil_of_le (by omega)]; rfl
 | succ m ih =>
  intro i n hi hn
  obtain ⟨n, rfl⟩ : ∃ q, n = q + 1 := ⟨n - 1, by omega⟩
  have hil : i < ds.length := by omega
  rw [m_ref11_ValidNames_L14, m_ref11_ValidNames_B14, zak (by omega), gi_nat hp, hds, if_pos (by omega), zak (by omega), zak (by omega)]
  simp only [jn_eq]
  rw [gi_nat hil, List.drop_eq_getElem_cons hil, List.all_cons, i64_succ (by omega), ih (i + 1) n (by omega) (by omega)]
  by_cases h0 : ds[i] = []
  ·have : okD ds[i] = true := decide_eq_true (.inl h0)
   rw [if_neg (fun h => h h0), if_neg Bool.false_ne_true, this, Bool.true_and]
  ·rw [if_pos h0, rKind, zai]
   by_cases h5 : kindW ds[i] = 5
   ·have : okD ds[i] = true := decide_eq_true (.inr h5)
    rw [this, Bool.true_and, if_neg (by simpa using h5)]
   ·have : okD ds[i] = false := decide_eq_false (fun h => h.elim h0 h5)
    rw [this, Bool.false_and, if_pos (by simpa using h5)]; rfl
theorem rValidNames (l : List Inf) (hl : l.length ≤ 9223372036854775807) : m_ref11_ValidNames l = some (validB l) := by
 have hFU := FU_ge
 unfold m_ref11_ValidNames
 by_cases h6 : (65536 : Int) < (l.length : Int)
 ·rw [if_pos h6]; unfold validB; rw [decide_eq_false (p := l.length ≤ 65536) (by omega), Bool.and_false]
 ·rw [if_neg h6, jn_eq]
  have loop : ∀ (m i n : Nat), i + m = l.length → m < n → m_ref11_ValidNames_L8 l (fun _ => some true) n i = some ((l.drop i).all okI) := by
   intro m
   induction m with
   | zero =>
    intro i n hi hn
    obtain ⟨n, rfl⟩ : ∃ q, n = q + 1 := ⟨n - 1, by omega⟩
    rw [m_ref11_ValidNames_L8, m_ref11_ValidNames_B8, if_neg (by omega), List.drop_eq_nil_of_le (by omega)]; rfl
   | succ m ih =>
    intro i n hi hn
    obtain ⟨n, rfl⟩ : ∃ q, n = q + 1 := ⟨n - 1, by omega⟩
    have hil : i < l.length := by omega
    rw [m_ref11_ValidNames_L8, m_ref11_ValidNames_B8, if_pos (by omega)]
    simp only [jn_eq]
    rw [zak (by omega), gi_nat hil, List.drop_eq_getElem_cons hil, List.all_cons]
    by_cases h2 : (8 : Int) < (l[i]).2.2.2.length
    ·have : okI l[i] = false := by unfold okI; rw [decide_eq_false (p := (l[i]).2.2.2.length ≤ 8) (by omega), Bool.false_and, Bool.and_false]
     rw [if_pos h2, if_pos trivial, this]; rfl
    ·rw [if_neg h2, zak (by omega)]
     by_cases h1 : (l[i]).2.1 < -1
     ·have : okI l[i] = false := by unfold okI; rw [decide_eq_false (by omega), Bool.false_and]
      rw [if_pos (decide_eq_true h1), this]; rfl
     ·rw [if_neg (fun h => h1 (of_decide_eq_true h))]
      have e := rvalid_in l i hil (fun _ => m_ref11_ValidNames_L8 l (fun _ => some true) n (i64 ((i : Int) + 1))) (l[i]).2.2.2 rfl (by omega) (l[i]).2.2.2.length 0 FU (by omega) (by omega)
      rw [Int.natCast_zero, List.drop_zero] at e
      rw [e, i64_succ (by omega), ih (i + 1) n (by omega) (by omega)]
      have : okI l[i] = (l[i]).2.2.2.all okD := by unfold okI; rw [decide_eq_true (by omega), decide_eq_true (p := (l[i]).2.2.2.length ≤ 8) (by omega), Bool.true_and, Bool.true_and]
      rw [this]
      cases (l[i]).2.2.2.all okD <;> rfl
  have := loop l.length 0 FU (by omega) (by omega)
  rw [Int.natCast_zero, List.drop_zero] at this
  rw [this]
  unfold validB
  rw [decide_eq_true (p := l.length ≤ 65536) (by omega), Bool.and_true]
noncomputable def inR (d x : Vl) : Bool := decide (d = []) || (meW x d).1
theorem rIn (x d : Vl) : m_ref11_in x d = some (inR d x) := by
 unfold m_ref11_in inR
 rw [rMember, zai]
 simp only [jn_eq]
 by_cases h0 : d = []
 ·rw [if_pos h0, decide_eq_true h0, Bool.true_or]
 ·rw [if_neg h0, decide_eq_false h0, Bool.false_or]
  unfold meW
  by_cases h : vldB x = true ∧ isSet d = true
  ·rw [if_pos h, if_pos rfl]
  ·rw [if_neg h, if_neg (by decide)]
theorem inR_eq {d x : Vl} (hd : okD d = true) (hx : Vd x) : inR d x = inB d x := by
 unfold inR inB meW
 by_cases h0 : d = []
 ·rw [decide_eq_true h0, decide_eq_true (p := d = [] ∨ x ∈ prtW d) (.inl h0), Bool.true_or]
 ·have h5 : isSet d = true := by
   unfold okD at hd; unfold isSet
   exact decide_eq_true ((of_decide_eq_true hd).resolve_left h0)
  rw [if_pos ⟨vldB_iff.2 hx, h5⟩, decide_eq_false h0, Bool.false_or]
  exact decide_eq_decide.2 ⟨.inr, fun h => h.resolve_left h0⟩
noncomputable def allR : List Vl → List Vl → Bool
 | f :: fs, d :: ds => inR d f && allR fs ds
 | _, _ => true
theorem allR_eq : ∀ (fs ds : List Vl), (∀ x ∈ fs, Vd x) → (∀ d ∈ ds, okD d = true) → allR fs ds = allIn fs ds
 | [], _, _, _ => by simp [allR, allIn]
 | _ :: _, [], _, _ => by simp [allR, allIn]
 | f :: fs, d :: ds, hf, hd => by
  rw [allR, allIn, inR_eq (hd d (by simp)) (hf f (by simp)), allR_eq fs ds (fun x hx => hf x (by simp [hx])) (fun x hx => hd x (by simp [hx]))]
noncomputable def rbel (l : List Inf) (v : Vl) : Int × List Vl × Bool := if ((dots v).2.2 && (decide ((dots v).1 < l.length) && (decide ((dots v).2.1.length ≤ (gi l (dots v).1).2.2.2.length) && allR (dots v).2.1 (gi l (dots v).1).2.2.2))) = true then ((dots v).1, (dots v).2.1, true) else (0, [], false)
theorem rbel_loop (l : List Inf) (y2 fs : List Vl) (hfs : y2.drop 1 = fs) (n : Nat) (hn : n < l.length) (hf : fs.length ≤ (l[n]).2.2.2.length) (h8 : fs.length ≤ 1000) (K : Unit → Option (Int × List Vl × Bool)) : ∀ (m i g : Nat), i + m = fs.length → m < g → m_ref11_belongs_L2 l y2 n K g i = if allR (fs.drop i) ((l[n]).2.2.2.drop i) then K () else some (0, [], false) := by
 have e1 : List.drop (Int.toNat 1) y2 = fs := hfs
 intro m
 induction m with
 | zero =>
  intro i g hi hg
  obtain ⟨g, rfl⟩ : ∃ q, g = q + 1 := ⟨g - 1, by omega⟩
  rw [m_ref11_belongs_L2, m_ref11_belongs_B2, e1, if_neg (by omega), List.drop_eq_nil_of_le (show fs.length ≤ i by omega)]
  simp [allR]
 | succ m ih =>
  intro i g hi hg
  obtain ⟨g, rfl⟩ : ∃ q, g = q + 1 := ⟨g - 1, by omega⟩
  have hil : i < fs.length := by omega
  have hdl : i < (l[n]).2.2.2.length := by omega
  rw [m_ref11_belongs_L2, m_ref11_belongs_B2, e1, if_pos (by omega), zak (by omega), zak (by omega), gi_nat hn, zak (by omega), gi_nat hil, gi_nat hdl, rIn, zai, List.drop_eq_getElem_cons hil, List.drop_eq_getElem_cons hdl, allR]
  cases inR (l[n]).2.2.2[i] fs[i] with
  | true => rw [if_neg (by simp), i64_succ (by omega), ih (i + 1) g (by omega) (by omega), Bool.true_and]
  | false => rfl
theorem rBelongs (l : List Inf) (v : Vl) : m_ref11_belongs l v = some (rbel l v) := by
 have hFU := FU_ge
 unfold m_ref11_belongs rbel
 rw [rKind, zai]
 have hd := dots_num v
 have hlen := dots_len v
 by_cases h7 : kindW v = 7
 ·have hp := dot_parts h7
  have hdots : dots v = (numW (gi (prtW v) 0), (prtW v).drop 1, true) := by unfold dots; rw [if_pos h7]
  rw [if_neg (fun h => h h7), rPartsW, zai, zak (by omega), rNum, zai, zak (by omega)]
  rw [hdots] at hd hlen ⊢
  simp only [jn_eq] at hd hlen ⊢
  generalize numW (gi (prtW v) 0) = y at hd ⊢
  obtain ⟨n, rfl⟩ : ∃ n : Nat, y = n := ⟨y.toNat, by omega⟩
  have e1 : List.drop (Int.toNat 1) (prtW v) = (prtW v).drop 1 := rfl
  rw [e1, Bool.true_and]
  by_cases hn : n < l.length
  ·rw [if_neg (by omega), zak (by omega), gi_nat hn, decide_eq_true (by omega : (n : Int) < (l.length : Int)), Bool.true_and]
   by_cases hf : ((prtW v).drop 1).length ≤ (l[n]).2.2.2.length
   ·have hl := rbel_loop l (prtW v) _ rfl n hn hf (by omega) (fun _ => some ((n : Int), (prtW v).drop 1, true)) _ 0 FU (Nat.zero_add _) (by omega)
    rw [Int.natCast_zero, List.drop_zero, List.drop_zero] at hl
    rw [if_neg (fun h => by have := of_decide_eq_true h; omega), hl, decide_eq_true hf, Bool.true_and]
    split <;> rfl
   ·rw [if_pos (decide_eq_true (by omega)), decide_eq_false hf, Bool.false_and]; rfl
  ·rw [if_pos (by omega), if_pos trivial, decide_eq_false (by omega : ¬ (n : Int) < (l.length : Int)), Bool.false_and]; rfl
 ·have h0 : (dots v).2.2 = false := by unfold dots; rw [if_neg h7]
  rw [if_pos h7, h0, Bool.false_and]; rfl
theorem rbel_eq {l : List Inf} (hv : validB l = true) (v : Vl) : rbel l v = if belB l v = true then ((dots v).1, (dots v).2.1, true) else (0, [], false) := by
 have hd := dots_num v
 unfold rbel belB
 by_cases hn : (dots v).1 < (l.length : Int)
 ·obtain ⟨n, hnn⟩ : ∃ n : Nat, (dots v).1 = n := ⟨(dots v).1.toNat, by omega⟩
  have hln : n < l.length := by omega
  rw [hnn, gi_nat hln, allR_eq _ _ (fun x hx => dots_mem hx) (dom_ok hv hln).1]
 ·rw [decide_eq_false hn, Bool.false_and, Bool.false_and, Bool.and_false]
theorem rUnb (x : Inf) (hx : x.2.2.2.length ≤ 1099511627776) (j : Nat) : m_ref11_unbounded x j = some (decide ([] ∈ x.2.2.2.drop j)) := by
 have hFU := FU_ge
 unfold m_ref11_unbounded
 rw [jn_eq]
 have loop : ∀ (m i n : Nat), x.2.2.2.length ≤ i + m → m < n → m_ref11_unbounded_L2 x (fun _ => some false) n i = some (decide ([] ∈ x.2.2.2.drop i)) := by
  intro m
  induction m with
  | zero =>
   intro i n hi hn
   obtain ⟨n, rfl⟩ : ∃ q, n = q + 1 := ⟨n - 1, by omega⟩
   rw [m_ref11_unbounded_L2, m_ref11_unbounded_B2, if_neg (by omega), List.drop_eq_nil_of_le (by omega)]; simp
  | succ m ih =>
   intro i n hi hn
   obtain ⟨n, rfl⟩ : ∃ q, n = q + 1 := ⟨n - 1, by omega⟩
   by_cases hil : i < x.2.2.2.length
   ·rw [m_ref11_unbounded_L2, m_ref11_unbounded_B2, if_pos (by omega), zak (by omega), gi_nat hil, List.drop_eq_getElem_cons hil, i64_succ (by omega), ih (i + 1) n (by omega) (by omega)]
    by_cases h0 : x.2.2.2[i] = []
    ·rw [if_pos h0, decide_eq_true (by rw [h0]; simp)]
    ·rw [if_neg h0]; congr 1
     exact decide_eq_decide.2 ⟨fun h => List.mem_cons_of_mem _ h, fun h => (List.mem_cons.1 h).resolve_left (fun e => h0 e.symm)⟩
   ·rw [m_ref11_unbounded_L2, m_ref11_unbounded_B2, if_neg (by omega), List.drop_eq_nil_of_le (by omega)]; simp
 exact loop x.2.2.2.length j FU (by omega) (by omega)
theorem rUnb0 (x : Inf) (hx : x.2.2.2.length ≤ 1099511627776) : m_ref11_unbounded x 0 = some (decide ([] ∈ x.2.2.2)) := by
 have := rUnb x hx 0
 rw [Int.natCast_zero, List.drop_zero] at this
 exact this
theorem rDotX {k : Int} (h0 : 0 ≤ k) (h1 : k ≤ 65535) (l : List (List UInt8)) (hl : l.length ≤ 1000000000) : m_ref9_Dot k l = some (cmpd 7 (nameW k :: l)) := by
 unfold m_ref9_Dot
 have := rMake 7 (by decide) ([nameW k] ++ l) (by simp; omega)
 rw [show ((7 : UInt8).toNat : Int) = 7 from rfl] at this
 rw [rNameW h0 h1, zai, zak (by simp; omega), this, zai]; rfl
theorem rcom_loop (n : Nat) (hn : n ≤ 65535) (f : List Vl) (hf : f.length ≤ 1000) (rows : List Vl) (hr : rows.length ≤ 65535) : ∀ (m i g : Nat) (out : List Vl), i + m = rows.length → m < g → out.length + m ≤ 2000000 →
  m_ref11_completions_L2 n f rows (fun x => some (x, 0)) g out i = some (if ((rows.drop i).map prtW).any (fun r => decide (dotW n (f ++ r) = [])) then ([], 9) else (out ++ ((rows.drop i).map prtW).map (fun r => dotW n (f ++ r)), 0)) := by
 intro m
 induction m with
 | zero =>
  intro i g out hi hg ho
  obtain ⟨g, rfl⟩ : ∃ q, g = q + 1 := ⟨g - 1, by omega⟩
  rw [m_ref11_completions_L2, m_ref11_completions_B2, if_neg (by omega), List.drop_eq_nil_of_le (by omega)]; simp
 | succ m ih =>
  intro i g out hi hg ho
  obtain ⟨g, rfl⟩ : ∃ q, g = q + 1 := ⟨g - 1, by omega⟩
  have hil : i < rows.length := by omega
  have hp := (prtW_spec rows[i]).2.1
  rw [m_ref11_completions_L2, m_ref11_completions_B2, if_pos (by omega), zak (by omega), zak (by omega), gi_nat hil, rPartsW, zai, zak (by omega), rDotX (by omega) (by omega) _ (by rw [List.length_append]; omega), zai, List.drop_eq_getElem_cons hil, List.map_cons, List.any_cons, List.map_cons]
  by_cases h0 : dotW n (f ++ prtW rows[i]) = []
  ·rw [if_pos h0, decide_eq_true h0, Bool.true_or, if_pos rfl]
  ·rw [if_neg h0, decide_eq_false h0, Bool.false_or, zak (by simp; omega), i64_succ (by omega), ih (i + 1) g _ (by omega) (by omega) (by simp; omega)]
   split
   ·rfl
   ·rw [List.append_assoc]; rfl
theorem rCompl {l : List Inf} {n : Nat} (hn : n < l.length) (hn' : n ≤ 65535) {f : List Vl} (hf : f.length ≤ (l[n]).2.2.2.length) (h8 : (l[n]).2.2.2.length ≤ 8) : m_ref11_completions l n f = some (if [] ∈ (l[n]).2.2.2.drop f.length then ([], 17) else rW n f ((l[n]).2.2.2.drop f.length)) := by
 have hFU := FU_ge
 unfold m_ref11_completions
 rw [zak (by omega), gi_nat hn, rUnb _ (by omega), zai]
 by_cases hu : [] ∈ (l[n]).2.2.2.drop f.length
 ·rw [if_pos (decide_eq_true hu), if_pos hu]
 ·rw [if_neg (fun h => hu (of_decide_eq_true h)), if_neg hu, zak (by omega), zak (by omega), Int.toNat_natCast, rProduct _ (by rw [List.length_drop]; omega), zai]
  unfold rW
  by_cases hp : (pdW ((l[n]).2.2.2.drop f.length)).2 = 0
  ·rw [if_neg (fun h => h hp), if_neg (fun h => h hp), rPartsW, zai, jn_eq]
   have hpl := (prtW_spec (pdW ((l[n]).2.2.2.drop f.length)).1).2.1
   have := rcom_loop n hn' f (by omega) (prtW (pdW ((l[n]).2.2.2.drop f.length)).1) hpl _ 0 FU [] (Nat.zero_add _) (by omega) (by simp; omega)
   rw [Int.natCast_zero, List.drop_zero, List.nil_append] at this
   rw [this]; rfl
  ·rw [if_pos hp, if_pos hp]
theorem rSetOf (l : List Vl) (hl : l.length ≤ 10000000000) : m_ref11_setOf l = some (bndW l) := by
 have h1 := (sortW_spec l).2.2
 unfold m_ref11_setOf bndW
 rw [rSort l hl, zai, rSet _ (by omega), zai, setW_sort]
 simp only [jn_eq]
 by_cases h4 : 4096 < (sortW l).length
 ·rw [if_pos (by omega), if_pos trivial, if_pos (.inl h4)]
 ·rw [if_neg (by omega)]
  by_cases hs : setW l = []
  ·rw [if_pos (decide_eq_true hs), if_pos (.inr hs)]
  ·rw [if_neg (fun h => hs (of_decide_eq_true h)), if_neg (fun h => h.elim h4 hs)]
theorem vSetS (l : List Vl) (hl : l.length ≤ 10000000) (hx : ∀ x ∈ l, x.length ≤ 1099511627776) : m_dataspace_set l = some (bndW l) := by
 have h1 := (sortW_spec l).2.2
 unfold m_dataspace_set bndW
 rw [vSort l (by omega), zai, vSet _ (by omega) (fun x h => hx x (((sortW_spec l).2.1 x).1 h)), zai, setW_sort]
 simp only [jn_eq]
 by_cases h4 : 4096 < (sortW l).length
 ·rw [if_pos (by omega), if_pos trivial, if_pos (.inl h4)]
 ·rw [if_neg (by omega)]
  by_cases hs : setW l = []
  ·rw [if_pos (decide_eq_true hs), if_pos (.inr hs)]
  ·rw [if_neg (fun h => hs (of_decide_eq_true h)), if_neg (fun h => h.elim h4 hs)]
theorem anyM (f : Vl → Option Bool) (p : Vl → Bool) (l : List Vl) (hf : ∀ x ∈ l, f x = some (p x)) (hl : l.length ≤ 9223372036854775807) : zbg l f = some (l.any p) := by
 have hFU := FU_ge
 unfold zbg m_slices_IndexFunc_L_api_Value_api_Value
 rw [jn_eq]
 have loop : ∀ (m i n : Nat), i + m = l.length → m < n → ∃ r, zbk l f (fun _ => some (-1)) n i = some r ∧ decide (0 ≤ r) = (l.drop i).any p := by
  intro m
  induction m with
  | zero =>
   intro i n hi hn
   obtain ⟨n, rfl⟩ : ∃ k, n = k + 1 := ⟨n - 1, by omega⟩
   refine ⟨-1, by rw [zbk, m_slices_IndexFunc_L_api_Value_api_Value_B2, if_neg (by omega)], ?_⟩
   rw [List.drop_eq_nil_of_le (by omega)]; rfl
  | succ m ih =>
   intro i n hi hn
   obtain ⟨n, rfl⟩ : ∃ k, n = k + 1 := ⟨n - 1, by omega⟩
   have hil : i < l.length := by omega
   rw [zbk, m_slices_IndexFunc_L_api_Value_api_Value_B2, if_pos (by omega), zak (by omega), gi_nat hil, hf _ (List.getElem_mem hil), zai, List.drop_eq_getElem_cons hil, List.any_cons]
   cases hp : p l[i] with
   | true => exact ⟨i, rfl, by simp⟩
   | false =>
    rw [if_neg (by simp), i64_succ (by omega)]
    obtain ⟨r, h1, h2⟩ := ih (i + 1) n (by omega) (by omega)
    exact ⟨r, h1, by rw [h2]; simp⟩
 obtain ⟨r, h1, h2⟩ := loop l.length 0 FU (by omega) (by omega)
 rw [Int.natCast_zero] at h1
 rw [h1, zai, h2, List.drop_zero]
end Go.Proofs.YtjlbdhicabgliaaGreat
/- Values, extensions, productions: the program's and the reference's. -/
namespace Go.Proofs.YtjlbdhicabgliaaGreat
attribute [local irreducible] FU

noncomputable def domW (l : List Inf) (v : Vl) : List Vl := (gi l (dots v).1).2.2.2.drop (dots v).2.1.length
noncomputable def unbW (l : List Inf) (v : Vl) : Bool := decide ([] ∈ domW l v)
noncomputable def cV (l : List Inf) (v : Vl) : List Vl × Int := cW (dots v).1.toNat (dots v).2.1 (domW l v)
noncomputable def rV (l : List Inf) (v : Vl) : List Vl × Int := rW (dots v).1.toNat (dots v).2.1 (domW l v)
theorem bel_get {l : List Inf} (hv : validB l = true) {v : Vl} (h : belB l v = true) : ∃ n : Nat, ∃ hn : n < l.length, n ≤ 65535 ∧ dots v = ((n : Int), (dots v).2.1, true) ∧ (dots v).2.1.length ≤ (l[n]).2.2.2.length ∧ (l[n]).2.2.2.length ≤ 8 ∧ (∀ x ∈ (dots v).2.1, Vd x) ∧ (∀ d ∈ (l[n]).2.2.2, okD d = true) ∧ domW l v = (l[n]).2.2.2.drop (dots v).2.1.length := by
 have hd := dots_num v
 unfold belB at h
 simp only [Bool.and_eq_true, decide_eq_true_eq] at h
 obtain ⟨h1, h2, h3, _⟩ := h
 obtain ⟨n, hnn⟩ : ∃ n : Nat, (dots v).1 = n := ⟨(dots v).1.toNat, by omega⟩
 have hn : n < l.length := by omega
 rw [hnn, gi_nat hn] at h3
 obtain ⟨o1, o2⟩ := dom_ok hv hn
 refine ⟨n, hn, by omega, ?_, h3, o2, fun x hx => dots_mem hx, o1, ?_⟩
 ·rw [← h1, ← hnn]
 ·unfold domW; rw [hnn, gi_nat hn]
theorem vMissingB {l : List Inf} (hv : validB l = true) {v : Vl} (h : belB l v = true) : m_dataspace_missing l v = some (domW l v) := by
 obtain ⟨n, hn, _, hd, hf, _, _, _, e⟩ := bel_get hv h
 rw [vMissing hd hn hf, e]
theorem vUnbB {l : List Inf} (hv : validB l = true) {v : Vl} (h : belB l v = true) : m_dataspace_unbounded l v = some (unbW l v) := by
 obtain ⟨n, hn, _, hd, hf, h8, _, _, e⟩ := bel_get hv h
 rw [vUnb hd hn hf (by omega), unbW, e]
theorem vComplB {l : List Inf} (hv : validB l = true) {v : Vl} (h : belB l v = true) : m_dataspace_complete l v = some (cV l v) := by
 obtain ⟨n, hn, hn', hd, hf, h8, hx, _, e⟩ := bel_get hv h
 have h1 : (dots v).1.toNat = n := by have := congrArg (fun z => z.1) hd; simp only [] at this; omega
 rw [vComplete hd hn hn' hf (by omega) (fun x h => by have := (hx x h).2; omega), complW_eq, cV, h1, e, gi_nat hn]
theorem rComplB {l : List Inf} (hv : validB l = true) {v : Vl} (h : belB l v = true) : m_ref11_completions l (dots v).1 (dots v).2.1 = some (if unbW l v = true then ([], 17) else rV l v) := by
 obtain ⟨n, hn, hn', hd, hf, h8, hx, _, e⟩ := bel_get hv h
 have h1 : (dots v).1 = n := congrArg (fun z => z.1) hd
 rw [unbW, rV, e, h1, rCompl hn hn' hf h8, Int.toNat_natCast]
 by_cases hu : [] ∈ (l[n]).2.2.2.drop (dots v).2.1.length
 ·rw [if_pos hu, if_pos (decide_eq_true hu)]
 ·rw [if_neg hu, if_neg (fun h => hu (of_decide_eq_true h))]
theorem dom_sets {l : List Inf} (hv : validB l = true) {v : Vl} (h : belB l v = true) (hu : unbW l v = false) : (domW l v).all isSet = true := by
 obtain ⟨n, hn, _, _, _, _, _, ho, e⟩ := bel_get hv h
 have hu' : [] ∉ domW l v := fun hc => by unfold unbW at hu; rw [decide_eq_true hc] at hu; cases hu
 refine List.all_eq_true.2 (fun d hd => ?_)
 have := ho d (by rw [e] at hd; exact List.mem_of_mem_drop hd)
 unfold okD at this
 exact decide_eq_true ((of_decide_eq_true this).resolve_left (fun e => hu' (e ▸ hd)))
theorem crV {l : List Inf} (hv : validB l = true) {v : Vl} (h : belB l v = true) (hu : unbW l v = false) : ((cV l v).2 = 0 ∧ (rV l v).2 = 0 ∧ ∀ x, x ∈ (rV l v).1 ↔ x ∈ (cV l v).1) ∨ ((cV l v).2 = 0 ∧ (rV l v).2 = 9 ∧ ∀ S, (∀ x ∈ (cV l v).1, x ∈ S) → setW S = []) ∨ ((cV l v).2 = 9 ∧ (rV l v).2 = 9) := by
 have hd := dots_num v
 exact cr (by omega) _ (dom_sets hv h hu)
theorem comW_len (n : Nat) (f : List Vl) (R : List (List Vl)) : (comW n f R).1.length ≤ R.length ∧ ∀ x ∈ (comW n f R).1, x.length ≤ 131072 := by
 rcases comW_cases n f R with h | ⟨h, hne⟩
 ·rw [h]; simp
 ·rw [h]
  refine ⟨by simp, fun x hx => ?_⟩
  obtain ⟨r, hr, rfl⟩ := List.mem_map.1 hx
  have d := cmpd_ne.1 (hne r hr)
  rw [show dotW n (f ++ r) = raw 7 (nameW n :: (f ++ r)) from cmpd_yes d]
  exact d.2.2.2
theorem cV_len (l : List Inf) (v : Vl) : (cV l v).1.length ≤ 4096 ∧ ∀ x ∈ (cV l v).1, x.length ≤ 131072 := by
 unfold cV cW
 have hb := (chW_bound (domW l v)).1
 split
 ·have := comW_len (dots v).1.toNat (dots v).2.1 (chW (domW l v)).1
  exact ⟨by omega, this.2⟩
 ·simp
theorem rV_len (l : List Inf) (v : Vl) : (rV l v).1.length ≤ 65535 := by
 unfold rV rW
 split
 ·simp
 ·have := (comW_len (dots v).1.toNat (dots v).2.1 ((prtW (pdW (domW l v)).1).map prtW)).1
  rw [List.length_map] at this
  have := (prtW_spec (pdW (domW l v)).1).2.1
  omega
theorem vAll {l : List Inf} (hv : validB l = true) (vs : List Vl) (hb : ∀ v ∈ vs, belB l v = true) (hl : vs.length ≤ 1000000) : m_dataspace_all l vs = some (if vs.any (unbW l) = true then ([], 17) else allS (cV l) vs []) := by
 have hFU := FU_ge
 unfold m_dataspace_all
 rw [anyM _ (unbW l) vs (fun x hx => by unfold m_dataspace_all_1; rw [vUnbB hv (hb x hx), zai]) (by omega), zai]
 cases hu : vs.any (unbW l) with
 | true => rfl
 | false =>
  rw [if_neg (by simp), if_neg (by simp), jn_eq]
  have loop : ∀ (m i n : Nat) (out : List Vl), i + m = vs.length → m < n → out.length ≤ 4096 → (∀ x ∈ out, x.length ≤ 131072) → m_dataspace_all_L2 l vs (fun x => bnd1 (m_dataspace_set x) (fun y => some (y.1, y.2))) n out i = some (allGo (cV l) (vs.drop i) out) := by
   intro m
   induction m with
   | zero =>
    intro i n out hi hn ho hx
    obtain ⟨n, rfl⟩ : ∃ q, n = q + 1 := ⟨n - 1, by omega⟩
    rw [m_dataspace_all_L2, m_dataspace_all_B2, if_neg (by omega), vSetS out (by omega) (fun x h => by have := hx x h; omega), zai, List.drop_eq_nil_of_le (by omega), allGo]
   | succ m ih =>
    intro i n out hi hn ho hx
    obtain ⟨n, rfl⟩ : ∃ q, n = q + 1 := ⟨n - 1, by omega⟩
    have hil : i < vs.length := by omega
    have hcl := cV_len l vs[i]
    rw [m_dataspace_all_L2, m_dataspace_all_B2, if_pos (by omega), zak (by omega), gi_nat hil, vComplB hv (hb _ (List.getElem_mem hil)), zai, List.drop_eq_getElem_cons hil, allGo]
    by_cases h0 : (cV l vs[i]).2 = 0
    ·have hsl := (sortW_spec (out ++ (cV l vs[i]).1)).2
     have hal : (out ++ (cV l vs[i]).1).length ≤ 8192 := by rw [List.length_append]; omega
     rw [if_neg (fun h => h h0), if_neg (fun h => h h0), zak (by omega), vSort _ (by omega), zai]
     by_cases h4 : 4096 < (sortW (out ++ (cV l vs[i]).1)).length
     ·rw [if_pos (by omega), if_pos h4]
     ·rw [if_neg (by omega), if_neg h4, i64_succ (by omega), ih (i + 1) n _ (by omega) (by omega) (by omega) (fun x h => by
       rcases List.mem_append.1 ((hsl.1 x).1 h) with h | h
       ·exact hx x h
       ·exact hcl.2 x h)]
    ·rw [if_pos h0, if_pos h0]
  have h2 := loop vs.length 0 FU [] (by omega) (by omega) (by simp) (by simp)
  rw [Int.natCast_zero, List.drop_zero, allGo_eq (cV l) (fun v => cW_cases _ _ _)] at h2
  exact h2
def idxs (d : Int) : List Inf → Nat → List Nat
 | [], _ => []
 | x :: xs, i => if x.2.1 = d ∧ 0 ≤ d then i :: idxs d xs (i + 1) else idxs d xs (i + 1)
theorem idxs_lt (d : Int) : ∀ (xs : List Inf) (i j : Nat), j ∈ idxs d xs i → i ≤ j ∧ j < i + xs.length
 | [], i, j, h => by simp [idxs] at h
 | x :: xs, i, j, h => by
  rw [idxs] at h
  split at h
  ·rcases List.mem_cons.1 h with rfl | h
   ·simp
   ·have := idxs_lt d xs (i + 1) j h; simp only [List.length_cons]; omega
  ·have := idxs_lt d xs (i + 1) j h; simp only [List.length_cons]; omega
theorem idxs_len (d : Int) : ∀ (xs : List Inf) (i : Nat), (idxs d xs i).length ≤ xs.length
 | [], i => by simp [idxs]
 | x :: xs, i => by
  have := idxs_len d xs (i + 1)
  rw [idxs]; split <;> simp only [List.length_cons] <;> omega
noncomputable def namesW (d : Int) (xs : List Inf) (i : Nat) : List Vl := (idxs d xs i).map (fun j => dotW j [])
theorem namesW_cons (d : Int) (x : Inf) (xs : List Inf) (i : Nat) : namesW d (x :: xs) i = if x.2.1 = d ∧ 0 ≤ d then dotW i [] :: namesW d xs (i + 1) else namesW d xs (i + 1) := by
 unfold namesW; rw [idxs]; split <;> rfl
theorem name_bel {l : List Inf} {n : Nat} (hn : n < l.length) (hn' : n ≤ 65535) : belB l (dotW n []) = true := by
 unfold belB
 rw [dots_dot hn' (dot0_ne n), decide_eq_true (by omega : (n : Int) < (l.length : Int))]
 simp [allIn]
theorem names_bel {l : List Inf} (hl : l.length ≤ 65536) (d : Int) : ∀ v ∈ namesW d l 0, belB l v = true := fun v hv => by
 obtain ⟨j, hj, rfl⟩ := List.mem_map.1 hv
 have := idxs_lt d l 0 j hj
 exact name_bel (by omega) (by omega)
theorem valid_len {l : List Inf} (h : validB l = true) : l.length ≤ 65536 := by
 unfold validB at h; simp only [Bool.and_eq_true, decide_eq_true_eq] at h; exact h.2
noncomputable def valsW (c : Vl → List Vl × Int) (l : List Inf) (d : Int) : Vl × Int := if validB l = false then ([], 1) else if (namesW d l 0).any (unbW l) = true then ([], 17) else allS c (namesW d l 0) []
theorem vValues (l : List Inf) (hl : l.length ≤ 9223372036854775807) (d : Int) : m_dataspace_Values l d = some (valsW (cV l) l d) := by
 have hFU := FU_ge
 unfold m_dataspace_Values valsW
 rw [vValidL l hl, zai]
 cases hv : validB l with
 | false => rfl
 | true =>
  have h6 := valid_len hv
  rw [if_neg (by simp), if_neg (by simp), jn_eq]
  have loop : ∀ (K : List Vl → Option (Vl × Int)) (m i n : Nat) (out : List Vl), i + m = l.length → m < n → out.length + m ≤ 1000000 → m_dataspace_Values_L2 l d K n out i = K (out ++ namesW d (l.drop i) i) := by
   intro K m
   induction m with
   | zero =>
    intro i n out hi hn ho
    obtain ⟨n, rfl⟩ : ∃ q, n = q + 1 := ⟨n - 1, by omega⟩
    rw [m_dataspace_Values_L2, m_dataspace_Values_B2, if_neg (by omega), List.drop_eq_nil_of_le (by omega)]
    simp [namesW, idxs]
   | succ m ih =>
    intro i n out hi hn ho
    obtain ⟨n, rfl⟩ : ∃ q, n = q + 1 := ⟨n - 1, by omega⟩
    have hil : i < l.length := by omega
    rw [m_dataspace_Values_L2, m_dataspace_Values_B2, if_pos (by omega)]
    simp only [jn_eq]
    rw [zak (by omega), gi_nat hil, List.drop_eq_getElem_cons hil, namesW_cons, i64_succ (by omega)]
    by_cases h1 : (l[i]).2.1 = d
    ·by_cases h2 : 0 ≤ d
     ·rw [if_pos h1, if_pos (decide_eq_true h2), if_pos ⟨h1, h2⟩, pDot (by omega) (by omega) _ (by simp) (by simp), zai, zak (by simp; omega), ih (i + 1) n _ (by omega) (by omega) (by simp; omega), List.append_assoc]; rfl
     ·rw [if_pos h1, if_neg (fun h => h2 (of_decide_eq_true h)), if_neg (fun h => h2 h.2), ih (i + 1) n _ (by omega) (by omega) (by omega)]
    ·rw [if_neg h1, if_neg Bool.false_ne_true, if_neg (fun h => h1 h.1), ih (i + 1) n _ (by omega) (by omega) (by omega)]
  have h2 := loop (fun x => bnd1 (m_dataspace_all l x) (fun y => some (y.1, y.2))) l.length 0 FU [] (by omega) (by omega) (by simp; omega)
  rw [Int.natCast_zero, List.drop_zero, List.nil_append] at h2
  have hlen : (namesW d l 0).length ≤ l.length := by unfold namesW; rw [List.length_map]; exact idxs_len d l 0
  rw [h2, vAll hv _ (names_bel h6 d) (by omega), zai]
theorem unb_name {l : List Inf} {n : Nat} (hn : n < l.length) (hn' : n ≤ 65535) : unbW l (dotW n []) = decide ([] ∈ (l[n]).2.2.2) := by
 unfold unbW domW
 rw [dots_dot hn' (dot0_ne n), gi_nat hn]; rfl
theorem rV9 {l : List Inf} (hv : validB l = true) {v : Vl} (h : belB l v = true) (hu : unbW l v = false) (h0 : (rV l v).2 ≠ 0) : (rV l v).2 = 9 := by
 rcases crV hv h hu with ⟨_, h2, _⟩ | ⟨_, h2, _⟩ | ⟨_, h2⟩
 ·exact absurd h2 h0
 ·exact h2
 ·exact h2
theorem rValues (l : List Inf) (hl : l.length ≤ 9223372036854775807) (d : Int) : m_ref11_Values l d = some (valsW (rV l) l d) := by
 have hFU := FU_ge
 unfold m_ref11_Values valsW
 rw [rValidNames l hl, zai]
 cases hv : validB l with
 | false => rfl
 | true =>
  have h6 := valid_len hv
  rw [if_neg (by simp), if_neg (by simp), jn_eq]
  have h8 : ∀ (i : Nat) (h : i < l.length), (l[i]).2.2.2.length ≤ 8 := fun i h => (dom_ok hv h).2
  have loop1 : ∀ (K : Unit → Option (Vl × Int)) (m i n : Nat), i + m = l.length → m < n → m_ref11_Values_L2 l d K n i = if (namesW d (l.drop i) i).any (unbW l) = true then some ([], 17) else K () := by
   intro K m
   induction m with
   | zero =>
    intro i n hi hn
    obtain ⟨n, rfl⟩ : ∃ q, n = q + 1 := ⟨n - 1, by omega⟩
    rw [m_ref11_Values_L2, m_ref11_Values_B2, if_neg (by omega), List.drop_eq_nil_of_le (by omega)]
    simp [namesW, idxs]
   | succ m ih =>
    intro i n hi hn
    obtain ⟨n, rfl⟩ : ∃ q, n = q + 1 := ⟨n - 1, by omega⟩
    have hil : i < l.length := by omega
    rw [m_ref11_Values_L2, m_ref11_Values_B2, if_pos (by omega)]
    simp only [jn_eq]
    rw [zak (by omega), gi_nat hil, List.drop_eq_getElem_cons hil, namesW_cons, i64_succ (by omega), ih (i + 1) n (by omega) (by omega)]
    by_cases h1 : (l[i]).2.1 = d
    ·by_cases h2 : 0 ≤ d
     ·rw [if_pos h1, if_pos h2, if_pos (show (l[i]).2.1 = d ∧ 0 ≤ d from ⟨h1, h2⟩), zak (by omega), rUnb0 _ (by have := h8 i hil; omega), zai, List.any_cons, unb_name hil (by omega)]
      cases decide ([] ∈ (l[i]).2.2.2) <;> rfl
     ·rw [if_pos h1, if_neg h2, if_neg (show ¬ ((l[i]).2.1 = d ∧ 0 ≤ d) from fun h => h2 h.2), if_neg Bool.false_ne_true]
    ·rw [if_neg h1, if_neg Bool.false_ne_true, if_neg (show ¬ ((l[i]).2.1 = d ∧ 0 ≤ d) from fun h => h1 h.1)]
  have loop2 : ∀ (K : List Vl → Option (Vl × Int)) (m i n : Nat) (out : List Vl), i + m = l.length → m < n → out.length + 65535 * m ≤ 9000000000 → (∀ v ∈ namesW d (l.drop i) i, unbW l v = false) → m_ref11_Values_L4 l d K n out i = if (namesW d (l.drop i) i).any (fun v => decide ((rV l v).2 ≠ 0)) = true then some ([], 9) else K (out ++ (namesW d (l.drop i) i).flatMap (fun v => (rV l v).1)) := by
   intro K m
   induction m with
   | zero =>
    intro i n out hi hn ho hu
    obtain ⟨n, rfl⟩ : ∃ q, n = q + 1 := ⟨n - 1, by omega⟩
    rw [m_ref11_Values_L4, m_ref11_Values_B4, if_neg (by omega), List.drop_eq_nil_of_le (by omega)]
    simp [namesW, idxs]
   | succ m ih =>
    intro i n out hi hn ho hu
    obtain ⟨n, rfl⟩ : ∃ q, n = q + 1 := ⟨n - 1, by omega⟩
    have hil : i < l.length := by omega
    rw [List.drop_eq_getElem_cons hil, namesW_cons] at hu
    rw [m_ref11_Values_L4, m_ref11_Values_B4, if_pos (by omega)]
    simp only [jn_eq]
    rw [zak (by omega), gi_nat hil, List.drop_eq_getElem_cons hil, namesW_cons, i64_succ (by omega)]
    by_cases h1 : (l[i]).2.1 = d
    ·by_cases h2 : 0 ≤ d
     ·rw [if_pos ⟨h1, h2⟩] at hu
      have hbel := name_bel hil (by omega)
      have hu0 := hu (dotW i []) (by simp)
      have hc := rComplB hv hbel
      rw [dots_dot (by omega) (dot0_ne i), if_neg (by rw [hu0]; simp)] at hc
      rw [if_neg (fun h => h h1), if_neg (fun h => by have := of_decide_eq_true h; omega), if_pos (show (l[i]).2.1 = d ∧ 0 ≤ d from ⟨h1, h2⟩), hc, zai, List.any_cons, List.flatMap_cons]
      have hrl := rV_len l (dotW i [])
      by_cases h0 : (rV l (dotW i [])).2 = 0
      ·rw [if_neg (fun h => h h0), zak (by omega), ih (i + 1) n _ (by omega) (by omega) (by rw [List.length_append]; omega) (fun v h => hu v (by simp [h])), decide_eq_false (fun h => h h0), Bool.false_or, List.append_assoc]
      ·rw [if_pos h0, decide_eq_true h0, Bool.true_or, if_pos rfl, rV9 hv hbel hu0 h0]
     ·rw [if_neg (fun h => h2 h.2)] at hu
      rw [if_neg (fun h => h h1), if_pos (decide_eq_true (by omega)), if_neg (show ¬ ((l[i]).2.1 = d ∧ 0 ≤ d) from fun h => h2 h.2), ih (i + 1) n _ (by omega) (by omega) (by omega) hu]
    ·rw [if_neg (fun h => h1 h.1)] at hu
     rw [if_pos h1, if_pos trivial, if_neg (show ¬ ((l[i]).2.1 = d ∧ 0 ≤ d) from fun h => h1 h.1), ih (i + 1) n _ (by omega) (by omega) (by omega) hu]
  have e1 := loop1 (fun _ => jn (fun x6_j94 => bnd1 (m_ref11_setOf x6_j94) (fun y222 => some (y222.1, y222.2))) (fun k94 => m_ref11_Values_L4 l d k94 FU [] 0)) l.length 0 FU (by omega) (by omega)
  rw [Int.natCast_zero, List.drop_zero] at e1
  rw [e1]
  cases hu : (namesW d l 0).any (unbW l) with
  | true => rfl
  | false =>
   rw [if_neg (by simp), if_neg (by simp), jn_eq]
   have hu' : ∀ v ∈ namesW d l 0, unbW l v = false := fun v hvv => Bool.eq_false_iff.2 (fun hc => by rw [List.any_eq_true.2 ⟨v, hvv, hc⟩] at hu; cases hu)
   have e2 := loop2 (fun x6_j94 => bnd1 (m_ref11_setOf x6_j94) (fun y222 => some (y222.1, y222.2))) l.length 0 FU [] (by omega) (by omega) (by simp; omega) hu'
   rw [Int.natCast_zero, List.drop_zero, List.nil_append] at e2
   rw [e2]
   unfold allS
   split
   ·rfl
   ·have hfl : ∀ L : List Vl, (L.flatMap (fun v => (rV l v).1)).length ≤ 65535 * L.length := fun L => by
     induction L with
     | nil => simp
     | cons v L ih => have := rV_len l v; rw [List.flatMap_cons, List.length_append, List.length_cons]; omega
    have h1 := hfl (namesW d l 0)
    have hlen : (namesW d l 0).length ≤ l.length := by unfold namesW; rw [List.length_map]; exact idxs_len d l 0
    rw [rSetOf _ (by omega), zai, List.nil_append]
theorem vals_eq (l : List Inf) (d : Int) : valsW (cV l) l d = valsW (rV l) l d := by
 unfold valsW
 cases hv : validB l with
 | false => rfl
 | true =>
  rw [if_neg (show ¬ true = false by simp), if_neg (show ¬ true = false by simp)]
  cases hu : (namesW d l 0).any (unbW l) with
  | true => rfl
  | false =>
   rw [if_neg (by simp), if_neg (by simp)]
   refine allS_congr (fun v hvv => crV hv (names_bel (valid_len hv) d v hvv) ?_)
   exact Bool.eq_false_iff.2 (fun hc => by rw [List.any_eq_true.2 ⟨v, hvv, hc⟩] at hu; cases hu)
end Go.Proofs.YtjlbdhicabgliaaGreat
/- Extensions, productions, the next field, joining, names: the program's and the reference's. -/
namespace Go.Proofs.YtjlbdhicabgliaaGreat
attribute [local irreducible] FU

noncomputable def extW (l : List Inf) (v : Vl) : Vl × Int := if validB l = false then ([], 1) else if ¬ kindW v = 7 then ([], 6) else if belB l v = false then ([], 18) else if unbW l v = true then ([], 17) else pdW (domW l v)
theorem vExt (l : List Inf) (hl : l.length ≤ 9223372036854775807) (v : Vl) : m_dataspace_Extensions l v = some (extW l v) := by
 unfold m_dataspace_Extensions extW
 rw [vValidL l hl, zai]
 cases hv : validB l with
 | false => rfl
 | true =>
  rw [if_neg (show ¬ (!true) = true by simp), if_neg (show ¬ true = false by simp), vKind, zai]
  by_cases h7 : kindW v = 7
  ·rw [if_neg (fun h => h h7), if_neg (fun h => h h7), vBelongs, zai]
   cases hb : belB l v with
   | false => rfl
   | true =>
    rw [if_neg (show ¬ (!true) = true by simp), if_neg (show ¬ true = false by simp), vUnbB hv hb, zai]
    cases hu : unbW l v with
    | true => rfl
    | false =>
     obtain ⟨n, hn, _, _, _, h8, _, _, e⟩ := bel_get hv hb
     rw [if_neg (by simp), if_neg (by simp), vMissingB hv hb, zai, vProduct _ (by rw [e, List.length_drop]; omega), zai]
  ·rw [if_pos h7, if_pos h7]
theorem rExt (l : List Inf) (hl : l.length ≤ 9223372036854775807) (v : Vl) : m_ref11_Extensions l v = some (extW l v) := by
 unfold m_ref11_Extensions extW
 rw [rValidNames l hl, zai]
 cases hv : validB l with
 | false => rfl
 | true =>
  rw [if_neg (show ¬ (!true) = true by simp), if_neg (show ¬ true = false by simp), rKind, zai]
  by_cases h7 : kindW v = 7
  ·rw [if_neg (fun h => h h7), if_neg (fun h => h h7), rBelongs, zai, rbel_eq hv]
   cases hb : belB l v with
   | false => rfl
   | true =>
    obtain ⟨n, hn, _, hd, hf, h8, _, _, e⟩ := bel_get hv hb
    have h1 : (dots v).1 = n := congrArg (fun z => z.1) hd
    rw [if_pos rfl, if_neg (show ¬ true = false by simp)]
    dsimp only
    rw [if_neg (show ¬ (!true) = true by simp), h1, zak (by omega), gi_nat hn, rUnb _ (by omega), zai, ← e]
    show (if unbW l v = true then _ else _) = _
    cases hu : unbW l v with
    | true => rfl
    | false => rw [if_neg (by simp), if_neg (by simp), zak (by omega), zak (by omega), Int.toNat_natCast, ← e, rProduct _ (by rw [e, List.length_drop]; omega), zai]
  ·rw [if_pos h7, if_pos h7]
noncomputable def prodW (c : Vl → List Vl × Int) (l : List Inf) (a : Vl) : Vl × Int := if validB l = false then ([], 1) else if ¬ kindW a = 5 then ([], 6) else if (prtW a).any (fun v => decide (¬ kindW v = 7)) = true then ([], 6) else if (prtW a).any (fun v => !belB l v) = true then ([], 18) else if (prtW a).any (unbW l) = true then ([], 17) else allS c (prtW a) []
theorem all_of_any {p : Vl → Bool} {L : List Vl} (h : L.any p = false) : ∀ v ∈ L, p v = false := fun v hv => Bool.eq_false_iff.2 (fun hc => by rw [List.any_eq_true.2 ⟨v, hv, hc⟩] at h; cases h)
theorem vProds (l : List Inf) (hl : l.length ≤ 9223372036854775807) (a : Vl) : m_dataspace_Productions l a = some (prodW (cV l) l a) := by
 have hpl := (prtW_spec a).2.1
 unfold m_dataspace_Productions prodW
 rw [vValidL l hl, zai]
 cases hv : validB l with
 | false => rfl
 | true =>
  rw [if_neg (show ¬ (!true) = true by simp), if_neg (show ¬ true = false by simp), vPartsW, zai]
  simp only [jn_eq]
  rw [vKind, zai]
  by_cases h5 : kindW a = 5
  ·rw [if_neg (fun h => h h5), if_neg (fun h => h h5), anyM m_dataspace_Productions_1 (fun v => decide (¬ kindW v = 7)) _ (fun x _ => by unfold m_dataspace_Productions_1; rw [vKind, zai]) (by omega), zai]
   cases hk : (prtW a).any (fun v => decide (¬ kindW v = 7)) with
   | true => rfl
   | false =>
    rw [if_neg (by simp), if_neg (by simp), anyM _ (fun v => !belB l v) _ (fun x _ => by unfold m_dataspace_Productions_2; rw [vBelongs, zai]) (by omega), zai]
    cases hb : (prtW a).any (fun v => !belB l v) with
    | true => rfl
    | false =>
     rw [if_neg (by simp), if_neg (by simp), vAll hv _ (fun v hvv => by have := all_of_any hb v hvv; simpa using this) (by omega), zai]
  ·rw [if_pos h5, if_pos h5, if_pos trivial]
theorem rProds (l : List Inf) (hl : l.length ≤ 9223372036854775807) (a : Vl) : m_ref11_Productions l a = some (prodW (rV l) l a) := by
 have hFU := FU_ge
 have hpl := (prtW_spec a).2.1
 unfold m_ref11_Productions prodW
 rw [rValidNames l hl, zai]
 cases hv : validB l with
 | false => rfl
 | true =>
  rw [if_neg (show ¬ (!true) = true by simp), if_neg (show ¬ true = false by simp), rKind, zai]
  by_cases h5 : kindW a = 5
  ·rw [if_neg (fun h => h h5), if_neg (fun h => h h5), rPartsW, zai, jn_eq]
   generalize prtW a = y at hpl
   have s0 : ∀ (K : Unit → Option (Vl × Int)) (m i n : Nat), i + m = y.length → m < n → zbh l y 0 K n i = if (y.drop i).any (fun v => decide (¬ kindW v = 7)) = true then some ([], 6) else K () := by
    intro K m
    induction m with
    | zero =>
     intro i n hi hn
     obtain ⟨n, rfl⟩ : ∃ q, n = q + 1 := ⟨n - 1, by omega⟩
     rw [zbh, m_ref11_Productions_B14, if_neg (by omega), List.drop_eq_nil_of_le (by omega)]; rfl
    | succ m ih =>
     intro i n hi hn
     obtain ⟨n, rfl⟩ : ∃ q, n = q + 1 := ⟨n - 1, by omega⟩
     have hil : i < y.length := by omega
     rw [zbh, m_ref11_Productions_B14, if_pos (by omega), zak (by omega), gi_nat hil, rBelongs, zai, i64_succ (by omega), ih (i + 1) n (by omega) (by omega), List.drop_eq_getElem_cons hil, List.any_cons]
     unfold jn
     dsimp only
     rw [if_pos rfl, zak (by omega), rKind, zai]
     by_cases h7 : kindW y[i] = 7
     ·rw [decide_eq_false (fun h => h h7), Bool.false_or]; rfl
     ·rw [decide_eq_true h7, Bool.true_or]; rfl
   have s1 : ∀ (K : Unit → Option (Vl × Int)) (m i n : Nat), i + m = y.length → m < n → zbh l y 1 K n i = if (y.drop i).any (fun v => !belB l v) = true then some ([], 18) else K () := by
    intro K m
    induction m with
    | zero =>
     intro i n hi hn
     obtain ⟨n, rfl⟩ : ∃ q, n = q + 1 := ⟨n - 1, by omega⟩
     rw [zbh, m_ref11_Productions_B14, if_neg (by omega), List.drop_eq_nil_of_le (by omega)]; rfl
    | succ m ih =>
     intro i n hi hn
     obtain ⟨n, rfl⟩ : ∃ q, n = q + 1 := ⟨n - 1, by omega⟩
     have hil : i < y.length := by omega
     rw [zbh, m_ref11_Productions_B14, if_pos (by omega), zak (by omega), gi_nat hil, rBelongs, zai, i64_succ (by omega), ih (i + 1) n (by omega) (by omega), List.drop_eq_getElem_cons hil, List.any_cons, rbel_eq hv]
     unfold jn
     dsimp only
     rw [if_neg (by decide), if_neg Bool.false_ne_true, if_pos rfl]
     cases belB l y[i] with
     | true => rfl
     | false => rfl
   have s2 : ∀ (K : Unit → Option (Vl × Int)) (hb : ∀ v ∈ y, belB l v = true) (m i n : Nat), i + m = y.length → m < n → zbh l y 2 K n i = if (y.drop i).any (unbW l) = true then some ([], 17) else K () := by
    intro K hb m
    induction m with
    | zero =>
     intro i n hi hn
     obtain ⟨n, rfl⟩ : ∃ q, n = q + 1 := ⟨n - 1, by omega⟩
     rw [zbh, m_ref11_Productions_B14, if_neg (by omega), List.drop_eq_nil_of_le (by omega)]; rfl
    | succ m ih =>
     intro i n hi hn
     obtain ⟨n, rfl⟩ : ∃ q, n = q + 1 := ⟨n - 1, by omega⟩
     have hil : i < y.length := by omega
     have hbi := hb _ (List.getElem_mem hil)
     obtain ⟨k, hk, _, hd, hf, h8, _, _, e⟩ := bel_get hv hbi
     have h1 : (dots y[i]).1 = k := congrArg (fun z => z.1) hd
     rw [zbh, m_ref11_Productions_B14, if_pos (by omega), zak (by omega), gi_nat hil, rBelongs, zai, i64_succ (by omega), ih (i + 1) n (by omega) (by omega), List.drop_eq_getElem_cons hil, List.any_cons, rbel_eq hv, hbi, if_pos rfl]
     unfold jn
     dsimp only
     rw [if_neg (by decide), if_neg Bool.false_ne_true, if_neg (by decide), if_neg Bool.false_ne_true, if_pos rfl]
     rw [h1, zak (by omega), gi_nat hk, rUnb _ (by omega), zai, ← e]
     show (if unbW l y[i] = true then _ else _) = _
     cases unbW l y[i] <;> rfl
   have s3 : ∀ (K : List Vl → Option (Vl × Int)) (hb : ∀ v ∈ y, belB l v = true) (hu : ∀ v ∈ y, unbW l v = false) (m i n : Nat) (out : List Vl), i + m = y.length → m < n → out.length + 65535 * m ≤ 9000000000 → m_ref11_Productions_L16 l y K n out i = if (y.drop i).any (fun v => decide ((rV l v).2 ≠ 0)) = true then some ([], 9) else K (out ++ (y.drop i).flatMap (fun v => (rV l v).1)) := by
    intro K hb hu m
    induction m with
    | zero =>
     intro i n out hi hn ho
     obtain ⟨n, rfl⟩ : ∃ q, n = q + 1 := ⟨n - 1, by omega⟩
     rw [m_ref11_Productions_L16, m_ref11_Productions_B16, if_neg (by omega), List.drop_eq_nil_of_le (by omega)]; simp
    | succ m ih =>
     intro i n out hi hn ho
     obtain ⟨n, rfl⟩ : ∃ q, n = q + 1 := ⟨n - 1, by omega⟩
     have hil : i < y.length := by omega
     have hbi := hb _ (List.getElem_mem hil)
     have hui := hu _ (List.getElem_mem hil)
     have hc := rComplB hv hbi
     rw [if_neg (by rw [hui]; simp)] at hc
     have hrl := rV_len l y[i]
     rw [m_ref11_Productions_L16, m_ref11_Productions_B16, if_pos (by omega), zak (by omega), gi_nat hil, rBelongs, zai, rbel_eq hv, hbi, if_pos rfl]
     dsimp only
     rw [hc, zai, List.drop_eq_getElem_cons hil, List.any_cons, List.flatMap_cons]
     by_cases h0 : (rV l y[i]).2 = 0
     ·rw [if_neg (fun h => h h0), zak (by omega), i64_succ (by omega), ih (i + 1) n _ (by omega) (by omega) (by rw [List.length_append]; omega), decide_eq_false (fun h => h h0), Bool.false_or, List.append_assoc]
     ·rw [if_pos h0, decide_eq_true h0, Bool.true_or, if_pos rfl, rV9 hv hbi hui h0]
   obtain ⟨k, hk⟩ := FU_k 4 (by omega)
   have t0 := fun K => s0 K y.length 0 FU (by omega) (by omega)
   have t1 := fun K => s1 K y.length 0 FU (by omega) (by omega)
   rw [Int.natCast_zero, List.drop_zero] at t0 t1
   have unf : ∀ (K : Unit → Option (Vl × Int)), m_ref11_Productions_L8 l y K (k + 4) 0 = zbh l y 0 (fun _ => zbh l y 1 (fun _ => zbh l y 2 (fun _ => K ()) FU 0) FU 0) FU 0 := fun K => by
    have a3 : m_ref11_Productions_L8 l y K (k + 1) (i64 (2 + 1)) = K () := by
     rw [show i64 (2 + 1) = 3 from by rw [i64_id (by omega)]; omega, m_ref11_Productions_L8, m_ref11_Productions_B8, if_neg (by decide)]
    have a2 : m_ref11_Productions_L8 l y K (k + 2) (i64 (1 + 1)) = zbh l y 2 (fun _ => K ()) FU 0 := by
     rw [show i64 (1 + 1) = 2 from by rw [i64_id (by omega)]; omega, m_ref11_Productions_L8, m_ref11_Productions_B8, if_pos (by decide), jn_eq, a3]
    have a1 : m_ref11_Productions_L8 l y K (k + 3) (i64 (0 + 1)) = zbh l y 1 (fun _ => zbh l y 2 (fun _ => K ()) FU 0) FU 0 := by
     rw [show i64 (0 + 1) = 1 from by rw [i64_id (by omega)]; omega, m_ref11_Productions_L8, m_ref11_Productions_B8, if_pos (by decide), jn_eq, a2]
    rw [m_ref11_Productions_L8, m_ref11_Productions_B8, if_pos (by decide), jn_eq, a1]
   have go : ∀ K, m_ref11_Productions_L8 l y K FU 0 = zbh l y 0 (fun _ => zbh l y 1 (fun _ => zbh l y 2 (fun _ => K ()) FU 0) FU 0) FU 0 := fun K => by
    have := unf K
    rw [← hk] at this
    exact this
   rw [go, t0]
   cases h7 : y.any (fun v => decide (¬ kindW v = 7)) with
   | true => rfl
   | false =>
    rw [if_neg (by simp), if_neg (by simp), t1]
    cases hb : y.any (fun v => !belB l v) with
    | true => rfl
    | false =>
     have hb' : ∀ v ∈ y, belB l v = true := fun v hvv => by have := all_of_any hb v hvv; simpa using this
     have t2 := fun K => s2 K hb' y.length 0 FU (by omega) (by omega)
     rw [Int.natCast_zero, List.drop_zero] at t2
     rw [if_neg (by simp), if_neg (by simp), t2]
     cases hu : y.any (unbW l) with
     | true => rfl
     | false =>
      rw [if_neg (by simp), if_neg (by simp), jn_eq]
      have e3 := s3 (fun x => bnd1 (m_ref11_setOf x) (fun y => some (y.1, y.2))) hb' (all_of_any hu) y.length 0 FU [] (by omega) (by omega) (by simp; omega)
      rw [Int.natCast_zero, List.drop_zero, List.nil_append] at e3
      rw [e3]
      unfold allS
      split
      ·rfl
      ·have hfl : ∀ L : List Vl, (L.flatMap (fun v => (rV l v).1)).length ≤ 65535 * L.length := fun L => by
        induction L with
        | nil => simp
        | cons v L ih => have := rV_len l v; rw [List.flatMap_cons, List.length_append, List.length_cons]; omega
       have h1 := hfl y
       rw [rSetOf _ (by omega), zai, List.nil_append]
  ·rw [if_pos h5, if_pos h5]
theorem prods_eq (l : List Inf) (a : Vl) : prodW (cV l) l a = prodW (rV l) l a := by
 unfold prodW
 cases hv : validB l with
 | false => rfl
 | true =>
  rw [if_neg (show ¬ true = false by simp), if_neg (show ¬ true = false by simp)]
  split
  ·rfl
  ·split
   ·rfl
   ·split
    ·rfl
    ·rename_i hb
     split
     ·rfl
     ·rename_i hu
      have hb' := all_of_any (Bool.eq_false_iff.2 hb)
      have hu' := all_of_any (Bool.eq_false_iff.2 hu)
      exact allS_congr (fun v hvv => crV hv (by have := hb' v hvv; simpa using this) (hu' v hvv))
end Go.Proofs.YtjlbdhicabgliaaGreat
/- The next field, completeness, joining, names: the program's and the reference's. -/
namespace Go.Proofs.YtjlbdhicabgliaaGreat
attribute [local irreducible] FU

noncomputable def nextW (l : List Inf) (v : Vl) : Vl × Bool := if validB l = false then ([], false) else if belB l v = false then ([], false) else match domW l v with | [] => ([], false) | d :: _ => (d, true)
theorem vNext (l : List Inf) (hl : l.length ≤ 9223372036854775807) (v : Vl) : m_dataspace_Next l v = some (nextW l v) := by
 unfold m_dataspace_Next nextW
 simp only [jn_eq]
 rw [vValidL l hl, zai]
 cases hv : validB l with
 | false => rfl
 | true =>
  rw [if_neg (show ¬ (!true) = true by simp), if_neg (show ¬ true = false by simp), vBelongs, zai]
  cases hb : belB l v with
  | false => rfl
  | true =>
   rw [if_neg (show ¬ (!true) = true by simp), if_neg (show ¬ true = false by simp), vMissingB hv hb, zai]
   cases domW l v with
   | nil => rfl
   | cons d ds => rw [if_neg (by simp; omega), zai, zak (by simp), show gi (d :: ds) 0 = d from rfl]
theorem rNext (l : List Inf) (hl : l.length ≤ 9223372036854775807) (v : Vl) : m_ref11_Next l v = some (nextW l v) := by
 unfold m_ref11_Next nextW
 simp only [jn_eq]
 rw [rBelongs, zai, rValidNames l hl, zai]
 cases hv : validB l with
 | false => rfl
 | true =>
  rw [if_neg (show ¬ (!true) = true by simp), if_neg (show ¬ true = false by simp), rbel_eq hv]
  cases hb : belB l v with
  | false => rfl
  | true =>
   obtain ⟨n, hn, _, hd, hf, h8, _, _, e⟩ := bel_get hv hb
   have h1 : (dots v).1 = n := congrArg (fun z => z.1) hd
   rw [if_pos rfl, if_neg (show ¬ true = false by simp)]
   dsimp only
   rw [if_neg (show ¬ (!true) = true by simp), h1, zak (by omega), gi_nat hn, zak (by omega), e]
   by_cases hlt : (dots v).2.1.length < (l[n]).2.2.2.length
   ·rw [if_neg (fun h => by have := of_decide_eq_true h; omega), zak (by omega), gi_nat hlt, List.drop_eq_getElem_cons hlt]
   ·rw [if_pos (decide_eq_true (by omega)), List.drop_eq_nil_of_le (by omega)]
theorem rCompleteB (l : List Inf) (v : Vl) (hl : l.length ≤ 9223372036854775807) : m_ref11_Complete l v = some (cplB l v) := by
 unfold m_ref11_Complete cplB
 simp only [jn_eq]
 rw [rBelongs, zai, rValidNames l hl, zai]
 cases hv : validB l with
 | false => rfl
 | true =>
  rw [if_pos rfl, rbel_eq hv, Bool.true_and]
  cases hb : belB l v with
  | false => rfl
  | true =>
   obtain ⟨n, hn, _, hd, hf, h8, _, _, e⟩ := bel_get hv hb
   have h1 : (dots v).1 = n := congrArg (fun z => z.1) hd
   rw [if_pos rfl]
   dsimp only
   rw [if_pos rfl, h1, zak (by omega), gi_nat hn, Bool.true_and]
   congr 1
   exact decide_eq_decide.2 ⟨fun h => by omega, fun h => by omega⟩
theorem dots_kind (a : Vl) : (dots a).2.2 = decide (kindW a = 7) := by
 unfold dots
 by_cases h : kindW a = 7
 ·rw [if_pos h, decide_eq_true h]
 ·rw [if_neg h, decide_eq_false h]
theorem rJoin (l : List Inf) (a b : Vl) (hl : l.length ≤ 9223372036854775807) : m_ref11_Join l a b = some (joinW l a b) := by
 unfold m_ref11_Join joinW
 simp only [jn_eq]
 rw [rValidNames l hl, zai]
 cases hv : validB l with
 | false => rfl
 | true =>
  rw [if_neg (show ¬ (!true) = true by simp), if_neg (show ¬ true = false by simp), rKind, zai]
  by_cases h7 : kindW a = 7
  ·have hd2 : (dots a).2.2 = true := by rw [dots_kind, decide_eq_true h7]
   rw [if_neg (fun h => h h7), rValid, zai, hd2]
   cases hvb : vldB b with
   | false => rw [if_pos (show (!false) = true by simp), if_pos (show true = false ∨ false = false by simp)]
   | true =>
    rw [if_neg (show ¬ (!true) = true by simp), if_neg (show ¬ (true = false ∨ true = false) by simp), rBelongs, zai, rbel_eq hv]
    cases hb : belB l a with
    | false => rfl
    | true =>
     obtain ⟨n, hn, hn', hd, hf, h8, _, ho, e⟩ := bel_get hv hb
     have h1 : (dots a).1 = n := congrArg (fun z => z.1) hd
     rw [if_pos rfl, if_neg (show ¬ true = false by simp)]
     dsimp only
     rw [if_neg (show ¬ (!true) = true by simp), h1, zak (by omega), gi_nat hn]
     by_cases hlt : (dots a).2.1.length < (l[n]).2.2.2.length
     ·rw [if_neg (by omega), zak (by omega), zak (by omega), gi_nat hlt, rIn, zai, inR_eq (ho _ (List.getElem_mem hlt)) (vldB_iff.1 hvb), List.drop_eq_getElem_cons hlt]
      dsimp only
      cases inB (l[n]).2.2.2[(dots a).2.1.length] b with
      | false => rfl
      | true =>
       rw [if_neg (show ¬ (!true) = true by simp), if_neg (show ¬ true = false by simp), zak (by omega), zak (by simp; omega), rDotX (by omega) (by omega) _ (by simp; omega), zai]
       split <;> rfl
     ·rw [if_pos (by omega), List.drop_eq_nil_of_le (by omega)]
  ·have hd2 : (dots a).2.2 = false := by rw [dots_kind, decide_eq_false h7]
   rw [if_pos h7, hd2, if_pos trivial, if_pos (.inl rfl)]
noncomputable def namesL (l : List Inf) : List Vl := if validB l = true then l.map (fun x => x.1) else []
theorem vClipS (l : List (List UInt8)) : m_slices_Clip_L_string_string l = some l := by
 unfold m_slices_Clip_L_string_string
 first
  | rfl
  | rw [zak (by omega), Int.toNat_natCast, List.take_length]
theorem vNames (l : List Inf) (hl : l.length ≤ 9223372036854775807) : m_dataspace_Names l = some (namesL l) := by
 have hFU := FU_ge
 unfold m_dataspace_Names namesL
 rw [vValidL l hl, zai]
 cases hv : validB l with
 | false => rfl
 | true =>
  have h6 := valid_len hv
  rw [if_neg (show ¬ (!true) = true by simp), if_pos rfl, jn_eq]
  have loop : ∀ (K : List Vl → Option (List Vl)) (m i n : Nat) (out : List Vl), i + m = l.length → m < n → out.length + m ≤ 1000000 → m_dataspace_Names_L2 l K n out i = K (out ++ (l.drop i).map (fun x => x.1)) := by
   intro K m
   induction m with
   | zero =>
    intro i n out hi hn ho
    obtain ⟨n, rfl⟩ : ∃ q, n = q + 1 := ⟨n - 1, by omega⟩
    rw [m_dataspace_Names_L2, m_dataspace_Names_B2, if_neg (by omega), List.drop_eq_nil_of_le (by omega)]; simp
   | succ m ih =>
    intro i n out hi hn ho
    obtain ⟨n, rfl⟩ : ∃ q, n = q + 1 := ⟨n - 1, by omega⟩
    have hil : i < l.length := by omega
    rw [m_dataspace_Names_L2, m_dataspace_Names_B2, if_pos (by omega), zak (by omega), gi_nat hil, zak (by simp; omega), i64_succ (by omega), ih (i + 1) n _ (by omega) (by omega) (by simp; omega), List.drop_eq_getElem_cons hil, List.map_cons, List.append_assoc]; rfl
  have h2 := loop (fun x => bnd1 (m_slices_Clip_L_string_string x) (fun y => some y)) l.length 0 FU [] (by omega) (by omega) (by simp; omega)
  rw [Int.natCast_zero, List.drop_zero, List.nil_append] at h2
  rw [h2, vClipS, zai]
theorem rNames (l : List Inf) (hl : l.length ≤ 9223372036854775807) : m_ref11_Names l = some (namesL l) := by
 have hFU := FU_ge
 unfold m_ref11_Names namesL
 rw [jn_eq]
 cases hv : validB l with
 | false =>
  obtain ⟨k, hk⟩ := FU_k 1 (by omega)
  have : ∀ g, m_ref11_Names_L2 l (fun x => some x) (g + 1) [] 0 = some [] := fun g => by
   rw [m_ref11_Names_L2, m_ref11_Names_B2]
   simp only [jn_eq]
   rw [rValidNames l hl, zai, hv, if_neg (by simp), if_neg (by simp)]
  rw [hk, this, if_neg (by simp)]
 | true =>
  have h6 := valid_len hv
  have loop : ∀ (m i n : Nat) (out : List Vl), i + m = l.length → m < n → out.length + m ≤ 1000000 → m_ref11_Names_L2 l (fun x => some x) n out i = some (out ++ (l.drop i).map (fun x => x.1)) := by
   intro m
   induction m with
   | zero =>
    intro i n out hi hn ho
    obtain ⟨n, rfl⟩ : ∃ q, n = q + 1 := ⟨n - 1, by omega⟩
    rw [m_ref11_Names_L2, m_ref11_Names_B2]
    simp only [jn_eq]
    rw [rValidNames l hl, zai, hv, if_pos rfl, if_neg (fun h => by have := of_decide_eq_true h; omega), List.drop_eq_nil_of_le (by omega)]; simp
   | succ m ih =>
    intro i n out hi hn ho
    obtain ⟨n, rfl⟩ : ∃ q, n = q + 1 := ⟨n - 1, by omega⟩
    have hil : i < l.length := by omega
    rw [m_ref11_Names_L2, m_ref11_Names_B2]
    simp only [jn_eq]
    rw [rValidNames l hl, zai, hv, if_pos rfl, if_pos (decide_eq_true (by omega)), zak (by omega), gi_nat hil, zak (by simp; omega), i64_succ (by omega), ih (i + 1) n _ (by omega) (by omega) (by simp; omega), List.drop_eq_getElem_cons hil, List.map_cons, List.append_assoc]; rfl
  have h2 := loop l.length 0 FU [] (by omega) (by omega) (by simp; omega)
  rw [Int.natCast_zero, List.drop_zero, List.nil_append] at h2
  rw [h2, if_pos rfl]
theorem hEqualS (a b : List (List UInt8)) (ha : a.length ≤ 1099511627776) : m_help_Equal_string a b = some (decide (a = b)) := by
 have hFU := FU_ge
 unfold m_help_Equal_string
 by_cases hl : a.length = b.length
 ·rw [if_neg (fun h => h (by omega)), jn_eq]
  have loop : ∀ (m i n : Nat), i + m = a.length → m < n → m_help_Equal_string_L2 a b (fun _ => some true) n i = some (decide (a.drop i = b.drop i)) := by
   intro m
   induction m with
   | zero =>
    intro i n hi hn
    obtain ⟨n, rfl⟩ : ∃ q, n = q + 1 := ⟨n - 1, by omega⟩
    rw [m_help_Equal_string_L2, m_help_Equal_string_B2, if_neg (by omega), List.drop_eq_nil_of_le (by omega), List.drop_eq_nil_of_le (by omega)]; rfl
   | succ m ih =>
    intro i n hi hn
    obtain ⟨n, rfl⟩ : ∃ q, n = q + 1 := ⟨n - 1, by omega⟩
    have h1 : i < a.length := by omega
    have h2 : i < b.length := by omega
    rw [m_help_Equal_string_L2, m_help_Equal_string_B2, if_pos (by omega), zak (by omega), zak (by omega), gi_nat h1, gi_nat h2, List.drop_eq_getElem_cons h1, List.drop_eq_getElem_cons h2]
    by_cases he : a[i] = b[i]
    ·rw [if_neg (fun h => h he), i64_succ (by omega), ih (i + 1) n (by omega) (by omega), he]; simp only [List.cons.injEq, true_and]
    ·rw [if_pos he, decide_eq_false (fun e => he (List.cons.inj e).1)]
  have h2 := loop a.length 0 FU (by omega) (by omega)
  rw [Int.natCast_zero, List.drop_zero, List.drop_zero] at h2
  exact h2
 ·rw [if_pos (fun h => hl (by omega)), decide_eq_false (fun e => hl (by rw [e]))]
end Go.Proofs.YtjlbdhicabgliaaGreat
/- The reference's events. -/
namespace Go.Proofs.YtjlbdhicabgliaaGreat
attribute [local irreducible] FU

abbrev EvR := List Vl × Int
noncomputable def ecGo : List Vl → List (List Vl) → List (List Vl) × Bool
 | [], out => (out, true)
 | d :: ds, out => if out.length = 0 then (out, true) else if 1024 < out.length * (prtW d).length then ([], false) else ecGo ds (chStep out (prtW d))
theorem prodN_pos : ∀ (ds : List Vl), (∀ d ∈ ds, 0 < (prtW d).length) → 0 < prodN ds (fun d => (prtW d).length)
 | [], _ => by simp [prodN]
 | d :: ds, h => by
  rw [prodN]
  exact Nat.mul_pos (h d (by simp)) (prodN_pos ds (fun x hx => h x (by simp [hx])))
theorem chGo_big {ds : List Vl} (h : ∀ d ∈ ds, 0 < (prtW d).length) {out : List (List Vl)} (ho : 1024 < out.length) : (chGo ds out).2 = false ∨ 1024 < (chGo ds out).1.length := by
 cases hc : (chGo ds out).2 with
 | false => exact .inl rfl
 | true =>
  right
  rw [chGo_len ds out hc]
  exact Nat.lt_of_lt_of_le ho (Nat.le_mul_of_pos_right _ (prodN_pos ds h))
theorem ec_spec : ∀ (ds : List Vl) (out : List (List Vl)), (∀ d ∈ ds, 0 < (prtW d).length) → 0 < out.length → out.length ≤ 1024 →
  ((ecGo ds out).2 = true ∧ chGo ds out = ((ecGo ds out).1, true) ∧ (ecGo ds out).1.length ≤ 1024) ∨ ((ecGo ds out).2 = false ∧ ((chGo ds out).2 = false ∨ 1024 < (chGo ds out).1.length))
 | [], out, _, _, h2 => .inl ⟨rfl, rfl, h2⟩
 | d :: ds, out, h, h1, h2 => by
  have hd := h d (by simp)
  have hds : ∀ q ∈ ds, 0 < (prtW q).length := fun q hq => h q (by simp [hq])
  rw [ecGo, chGo, if_neg (by omega)]
  by_cases h3 : 1024 < out.length * (prtW d).length
  ·rw [if_pos h3]
   right
   refine ⟨rfl, ?_⟩
   by_cases h4 : 4096 < out.length * (prtW d).length
   ·rw [if_pos h4]; exact .inl rfl
   ·rw [if_neg h4]
    exact chGo_big hds (by rw [chStep_len]; omega)
  ·rw [if_neg h3, if_neg (by omega)]
   exact ec_spec ds _ hds (by rw [chStep_len]; exact Nat.mul_pos h1 hd) (by rw [chStep_len]; omega)
theorem ecGo_nil : ∀ (ds : List Vl), ecGo ds [] = ([], true)
 | [] => rfl
 | d :: ds => by rw [ecGo, if_pos (by simp)]
theorem ev_inner (rows : List (List Vl)) (ps : List Vl) (x : Nat) (hx : x < rows.length) (hr : (rows[x]).length ≤ 1000) (hp : ps.length ≤ 131072) (K : List (List Vl) → Option EvR) : ∀ (m i n : Nat) (out : List (List Vl)), i + m = ps.length → m < n → out.length + m ≤ 1000000 →
  m_ref11_Events_L2079 rows ps x K n out i = K (out ++ (ps.drop i).map (fun v => rows[x] ++ [v])) := by
 intro m
 induction m with
 | zero =>
  intro i n out hi hn ho
  obtain ⟨n, rfl⟩ : ∃ q, n = q + 1 := ⟨n - 1, by omega⟩
  rw [m_ref11_Events_L2079, m_ref11_Events_B2079, if_neg (by omega), List.drop_eq_nil_of_le (by omega)]; simp
 | succ m ih =>
  intro i n out hi hn ho
  obtain ⟨n, rfl⟩ : ∃ q, n = q + 1 := ⟨n - 1, by omega⟩
  have hil : i < ps.length := by omega
  rw [m_ref11_Events_L2079, m_ref11_Events_B2079, if_pos (by omega), zak (by omega), zak (by omega), gi_nat hx, gi_nat hil, zak (by omega), zak (by simp; omega), zak (by simp; omega), i64_succ (by omega), ih (i + 1) n _ (by omega) (by omega) (by simp; omega), List.drop_eq_getElem_cons hil, List.map_cons, List.append_assoc]
  rfl
theorem ev_mid (rows : List (List Vl)) (ps : List Vl) (hl : rows.length ≤ 1024) (hr : ∀ r ∈ rows, r.length ≤ 1000) (hp' : ps.length ≤ 131072) (K : List (List Vl) → Option EvR) : ∀ (m i n : Nat) (out : List (List Vl)), i + m = rows.length → m < n → out.length + m * ps.length ≤ 4096 →
  m_ref11_Events_L2073 rows ps K n out i = K (out ++ chStep (rows.drop i) ps) := by
 have hFU := FU_ge
 intro m
 induction m with
 | zero =>
  intro i n out hi hn ho
  obtain ⟨n, rfl⟩ : ∃ q, n = q + 1 := ⟨n - 1, by omega⟩
  rw [m_ref11_Events_L2073, m_ref11_Events_B2073, if_neg (by omega), List.drop_eq_nil_of_le (by omega)]; simp [chStep]
 | succ m ih =>
  intro i n out hi hn ho
  obtain ⟨n, rfl⟩ : ∃ q, n = q + 1 := ⟨n - 1, by omega⟩
  have hil : i < rows.length := by omega
  rw [Nat.add_mul] at ho
  rw [m_ref11_Events_L2073, m_ref11_Events_B2073, if_pos (by omega), jn_eq]
  have e := ev_inner rows ps i hil (hr _ (List.getElem_mem hil)) hp' (fun x => m_ref11_Events_L2073 rows ps K n x (i64 ((i : Int) + 1))) ps.length 0 FU out (by omega) (by omega) (by omega)
  rw [Int.natCast_zero, List.drop_zero] at e
  rw [e, i64_succ (by omega), ih (i + 1) n _ (by omega) (by omega) (by simp; omega), List.drop_eq_getElem_cons hil, List.append_assoc]
  rfl
theorem ev_prods (l : List Inf) (p : Nat) (hp : p < l.length) (ds : List Vl) (hds : (l[p]).2.2.2 = ds) (h8 : ds.length ≤ 8) (K : List (List Vl) → Option EvR) : ∀ (m i n : Nat) (out : List (List Vl)), i + m = ds.length → m < n → out.length ≤ 1024 → (∀ r ∈ out, r.length = i) →
  m_ref11_Events_L1995 l p K n out i = if (ecGo (ds.drop i) out).2 = true then K (ecGo (ds.drop i) out).1 else some ([], 9) := by
 have hFU := FU_ge
 intro m
 induction m with
 | zero =>
  intro i n out hi hn ho hr
  obtain ⟨n, rfl⟩ : ∃ q, n = q + 1 := ⟨n - 1, by omega⟩
  rw [m_ref11_Events_L1995, m_ref11_Events_B1995]
  simp only [jn_eq]
  rw [zak (by omega), gi_nat hp, hds, if_neg (by omega), if_neg Bool.false_ne_true, List.drop_eq_nil_of_le (by omega), ecGo, if_pos rfl]
 | succ m ih =>
  intro i n out hi hn ho hr
  obtain ⟨n, rfl⟩ : ∃ q, n = q + 1 := ⟨n - 1, by omega⟩
  have hil : i < ds.length := by omega
  have hpl := (prtW_spec ds[i]).2.1
  have hm : out.length * (prtW ds[i]).length ≤ 1024 * 65535 := Nat.mul_le_mul ho hpl
  rw [m_ref11_Events_L1995, m_ref11_Events_B1995]
  simp only [jn_eq]
  rw [zak (by omega), gi_nat hp, hds, if_pos (by omega), List.drop_eq_getElem_cons hil, ecGo]
  by_cases h0 : out.length = 0
  ·rw [if_neg (fun h => by have := of_decide_eq_true h; omega), if_pos h0, if_pos rfl]
  ·have e : i64 ((out.length : Int) * ((prtW ds[i]).length : Int)) = ((out.length * (prtW ds[i]).length : Nat) : Int) := by rw [← Int.natCast_mul, i64_id (by omega)]
   rw [if_pos (decide_eq_true (by omega)), if_neg h0, zak (by omega), zak (by omega), gi_nat hil, rPartsW, zai, e]
   by_cases h : 1024 < out.length * (prtW ds[i]).length
   ·rw [if_pos (by omega), if_pos h, if_neg Bool.false_ne_true]
   ·rw [if_neg (by omega), if_neg h]
    have e2 := ev_mid out (prtW ds[i]) ho (fun r hr' => by rw [hr r hr']; omega) (by omega) (fun x => m_ref11_Events_L1995 l p K n x (i64 ((i : Int) + 1))) out.length 0 FU [] (by omega) (by omega) (by simp; omega)
    rw [Int.natCast_zero, List.drop_zero, List.nil_append] at e2
    rw [e2, i64_succ (by omega), ih (i + 1) n _ (by omega) (by omega) (by rw [chStep_len]; omega) (chStep_row hr)]
theorem ev_empty (l : List Inf) (p : Nat) (hp : p < l.length) (ds : List Vl) (hds : (l[p]).2.2.2 = ds) (h8 : ds.length ≤ 8) (K : List (List Vl) → Option EvR) : ∀ (k n : Nat) (x : List (List Vl)), k ≤ ds.length → k < n →
  m_ref11_Events_L1909 l p K n x ((k : Int) - 1) = K (if (ds.take k).any (fun d => decide ((prtW d).length = 0)) = true then [] else x) := by
 intro k
 induction k with
 | zero =>
  intro n x hk hn
  obtain ⟨n, rfl⟩ : ∃ q, n = q + 1 := ⟨n - 1, by omega⟩
  rw [m_ref11_Events_L1909, m_ref11_Events_B1909, if_neg (by omega), List.take_zero]; rfl
 | succ k ih =>
  intro n x hk hn
  obtain ⟨n, rfl⟩ : ∃ q, n = q + 1 := ⟨n - 1, by omega⟩
  have hkl : k < ds.length := by omega
  have e1 : ((k + 1 : Nat) : Int) - 1 = (k : Int) := by omega
  have e2 : i64 ((k : Int) - 1) = (k : Int) - 1 := i64_sub1 (by omega)
  rw [m_ref11_Events_L1909, m_ref11_Events_B1909, e1, if_pos (by omega)]
  simp only [jn_eq]
  rw [zak (by omega), gi_nat hp, hds, zak (by omega), gi_nat hkl, rPartsW, zai, e2, ih n _ (by omega) (by omega), ih n _ (by omega) (by omega), ← List.take_append_getElem hkl, List.any_append, List.any_cons, List.any_nil, Bool.or_false]
  by_cases h : (prtW ds[k]).length = 0
  ·rw [if_pos (by omega), decide_eq_true h, Bool.or_true, if_pos rfl]; congr 1; split <;> rfl
  ·rw [if_neg (by omega), decide_eq_false h, Bool.or_false]
noncomputable def evS (i : Nat) (rows : List (List Vl)) (out : List Vl) : Bool := rows.any (fun r => decide (dotW i r = [])) || decide (1024 < out.length + rows.length)
theorem ev_rows (p : Nat) (hp : p ≤ 65535) (rows : List (List Vl)) (hr : ∀ r ∈ rows, r.length ≤ 1000) (hl : rows.length ≤ 1000000) (K : List Vl → Option EvR) : ∀ (m i n : Nat) (out : List Vl), i + m = rows.length → m < n → out.length ≤ 1024 →
  m_ref11_Events_L2080 p K rows n out i = if evS p (rows.drop i) out = true then some ([], 9) else K (out ++ (rows.drop i).map (dotW p)) := by
 intro m
 induction m with
 | zero =>
  intro i n out hi hn ho
  obtain ⟨n, rfl⟩ : ∃ q, n = q + 1 := ⟨n - 1, by omega⟩
  rw [m_ref11_Events_L2080, m_ref11_Events_B2080, if_neg (by omega), List.drop_eq_nil_of_le (by omega), evS, decide_eq_false (by simp; omega)]; simp
 | succ m ih =>
  intro i n out hi hn ho
  obtain ⟨n, rfl⟩ : ∃ q, n = q + 1 := ⟨n - 1, by omega⟩
  have hil : i < rows.length := by omega
  rw [m_ref11_Events_L2080, m_ref11_Events_B2080, if_pos (by omega), zak (by omega), gi_nat hil, rDotX (by omega) (by omega) _ (by have := hr _ (List.getElem_mem hil); omega), zai]
  simp only [jn_eq]
  rw [List.drop_eq_getElem_cons hil, evS, List.any_cons, show (rows[i] :: rows.drop (i + 1)).length = (rows.drop (i + 1)).length + 1 from rfl]
  by_cases h0 : dotW p rows[i] = []
  ·rw [if_pos h0, if_pos trivial, decide_eq_true h0, Bool.true_or, Bool.true_or, if_pos rfl]
  ·rw [if_neg h0, decide_eq_false h0, Bool.false_or]
   by_cases h1 : 1024 ≤ out.length
   ·rw [if_pos (decide_eq_true (by omega)), decide_eq_true (p := 1024 < out.length + ((rows.drop (i + 1)).length + 1)) (by omega), Bool.or_true, if_pos rfl]
   ·rw [if_neg (fun h => by have := of_decide_eq_true h; omega), zak (by simp; omega), i64_succ (by omega), ih (i + 1) n _ (by omega) (by omega) (by simp; omega), evS, List.map_cons, List.append_assoc]
    have : decide (1024 < (out ++ [cmpd 7 (nameW (p : Int) :: rows[i])]).length + (rows.drop (i + 1)).length) = decide (1024 < out.length + ((rows.drop (i + 1)).length + 1)) := decide_eq_decide.2 (by simp; omega)
    rw [this]
    rfl
theorem ecGo_row : ∀ (ds : List Vl) (out : List (List Vl)) (k : Nat), (∀ r ∈ out, r.length = k) → ∀ r ∈ (ecGo ds out).1, r.length ≤ k + ds.length
 | [], out, k, h, r, hr => by rw [ecGo] at hr; rw [h r hr]; omega
 | d :: ds, out, k, h, r, hr => by
  rw [ecGo] at hr
  split at hr
  ·rw [h r hr]; omega
  ·split at hr
   ·simp at hr
   ·have := ecGo_row ds _ (k + 1) (chStep_row h) r hr
    simp only [List.length_cons]; omega
theorem ecGo_len : ∀ (ds : List Vl) (out : List (List Vl)), out.length ≤ 1024 → (ecGo ds out).1.length ≤ 1024
 | [], out, h => by rw [ecGo]; exact h
 | d :: ds, out, h => by
  rw [ecGo]
  split
  ·exact h
  ·split
   ·simp
   ·exact ecGo_len ds _ (by rw [chStep_len]; omega)
theorem rEvents (l : List Inf) (hl : l.length ≤ 9223372036854775807) : m_ref11_Events l = some (evW l) := by
 have hFU := FU_ge
 unfold m_ref11_Events evW
 rw [rValidNames l hl, zai]
 cases hv : validB l with
 | false => rfl
 | true =>
  have h6 := valid_len hv
  rw [if_neg (show ¬ (!true) = true by simp), if_pos rfl, jn_eq]
  have hI : ∀ (i : Nat) (h : i < l.length), -1 ≤ (l[i]).2.1 := fun i h => by
   have hv' := hv
   unfold validB at hv'
   simp only [Bool.and_eq_true, decide_eq_true_eq, List.all_eq_true] at hv'
   have := hv'.1 _ (List.getElem_mem h)
   unfold okI at this
   simp only [Bool.and_eq_true, decide_eq_true_eq] at this
   exact this.1
  have h8 : ∀ (i : Nat) (h : i < l.length), (l[i]).2.2.2.length ≤ 8 := fun i h => (dom_ok hv h).2
  have loop1 : ∀ (K : Unit → Option EvR) (m i n : Nat), i + m = l.length → m < n → m_ref11_Events_L2 l K n i = if (l.drop i).any (fun x => decide (x.2.1 = -1) && decide ([] ∈ x.2.2.2)) then some ([], 17) else K () := by
   intro K m
   induction m with
   | zero =>
    intro i n hi hn
    obtain ⟨n, rfl⟩ : ∃ q, n = q + 1 := ⟨n - 1, by omega⟩
    rw [m_ref11_Events_L2, m_ref11_Events_B2, if_neg (by omega), List.drop_eq_nil_of_le (by omega)]; rfl
   | succ m ih =>
    intro i n hi hn
    obtain ⟨n, rfl⟩ : ∃ q, n = q + 1 := ⟨n - 1, by omega⟩
    have hil : i < l.length := by omega
    have hIi := hI i hil
    rw [m_ref11_Events_L2, m_ref11_Events_B2, if_pos (by omega)]
    simp only [jn_eq]
    rw [zak (by omega), gi_nat hil, List.drop_eq_getElem_cons hil, List.any_cons, i64_succ (by omega), ih (i + 1) n (by omega) (by omega)]
    by_cases h : (l[i]).2.1 = -1
    ·rw [if_pos (by omega), zak (by omega), rUnb0 _ (by have := h8 i hil; omega), zai, decide_eq_true h, Bool.true_and]
     cases decide ([] ∈ (l[i]).2.2.2) <;> rfl
    ·rw [if_neg (by omega), if_neg Bool.false_ne_true, decide_eq_false h, Bool.false_and, Bool.false_or]
  have loop2 : ∀ (m i n : Nat) (out : List Vl), i + m = l.length → m < n → out.length ≤ 1024 → m_ref11_Events_L1042 l (fun x => some (x, 0)) n out i = some (evGo l (l.drop i) i out) := by
   intro m
   induction m with
   | zero =>
    intro i n out hi hn ho
    obtain ⟨n, rfl⟩ : ∃ q, n = q + 1 := ⟨n - 1, by omega⟩
    rw [m_ref11_Events_L1042, m_ref11_Events_B1042, if_neg (by omega), List.drop_eq_nil_of_le (by omega)]; rfl
   | succ m ih =>
    intro i n out hi hn ho
    obtain ⟨n, rfl⟩ : ∃ q, n = q + 1 := ⟨n - 1, by omega⟩
    have hil : i < l.length := by omega
    have hIi := hI i hil
    have h8i := h8 i hil
    rw [m_ref11_Events_L1042, m_ref11_Events_B1042, if_pos (by omega), jn_eq, zak (by omega), gi_nat hil, List.drop_eq_getElem_cons hil, evGo]
    by_cases h : (l[i]).2.1 = -1
    ·rw [if_neg (by omega), if_pos h, jn_eq, zak (by omega), i64_sub1 (by omega)]
     rw [ev_empty l i hil _ rfl h8i _ _ FU _ (Nat.le_refl _) (by omega), List.take_length, jn_eq]
     have hcw : complW l i [] = cW i [] (l[i]).2.2.2 := by rw [complW_eq, gi_nat hil]; rfl
     have hgen : ∀ x : List (List Vl), x.length ≤ 1024 → (∀ r ∈ x, r.length = 0) → m_ref11_Events_L1995 l i (fun x7 => m_ref11_Events_L2080 i (fun x5 => m_ref11_Events_L1042 l (fun x => some (x, 0)) n x5 (i64 ((i : Int) + 1))) x7 FU out 0) FU x 0 = if (ecGo (l[i]).2.2.2 x).2 = true then (if evS i (ecGo (l[i]).2.2.2 x).1 out = true then some ([], 9) else m_ref11_Events_L1042 l (fun x => some (x, 0)) n (out ++ (ecGo (l[i]).2.2.2 x).1.map (dotW i)) ((i + 1 : Nat) : Int)) else some ([], 9) := fun x hx hxr => by
      have e := ev_prods l i hil _ rfl h8i (fun x7 => m_ref11_Events_L2080 i (fun x5 => m_ref11_Events_L1042 l (fun x => some (x, 0)) n x5 (i64 ((i : Int) + 1))) x7 FU out 0) _ 0 FU x (Nat.zero_add _) (by omega) hx hxr
      rw [Int.natCast_zero, List.drop_zero] at e
      rw [e]
      split
      ·have hlen := ecGo_len (l[i]).2.2.2 x hx
       have e3 := ev_rows i (by omega) (ecGo (l[i]).2.2.2 x).1 (fun r hr => by have := ecGo_row (l[i]).2.2.2 x 0 hxr r hr; omega) (by omega) (fun x5 => m_ref11_Events_L1042 l (fun x => some (x, 0)) n x5 (i64 ((i : Int) + 1))) _ 0 FU out (Nat.zero_add _) (by omega) ho
       rw [Int.natCast_zero, List.drop_zero] at e3
       rw [e3, i64_succ (by omega)]
      ·rfl
     by_cases hany : (l[i]).2.2.2.any (fun d => decide ((prtW d).length = 0)) = true
     ·rw [if_pos hany, hgen [] (by simp) (by simp), ecGo_nil, if_pos rfl]
      have hz : cW i [] (l[i]).2.2.2 = ([], 0) := by unfold cW chW; rw [if_pos hany, if_pos rfl]; rfl
      rw [hcw, hz, if_pos rfl, evS, decide_eq_false (by simp; omega)]
      simp only [List.any_nil, Bool.or_self, Bool.false_eq_true, if_false, List.map_nil, List.append_nil]
      rw [if_neg (by omega), ih (i + 1) n _ (by omega) (by omega) ho]
     ·rw [if_neg hany, hgen [[]] (by simp) (by simp)]
      have hne : ∀ d ∈ (l[i]).2.2.2, 0 < (prtW d).length := fun d hd => Nat.pos_of_ne_zero (fun e => hany (List.any_eq_true.2 ⟨d, hd, decide_eq_true e⟩))
      have hch : chW (l[i]).2.2.2 = chGo (l[i]).2.2.2 [[]] := by unfold chW; rw [if_neg hany]
      rw [hcw]
      unfold cW
      rw [hch]
      rcases ec_spec (l[i]).2.2.2 [[]] hne (by simp) (by simp) with ⟨s1, s2, s3⟩ | ⟨s1, s2⟩
      ·rw [s1, s2, if_pos rfl, if_pos rfl]
       simp only []
       rcases comW_cases i [] (ecGo (l[i]).2.2.2 [[]]).1 with hc | ⟨hc, hcn⟩
       ·have : evS i (ecGo (l[i]).2.2.2 [[]]).1 out = true := by
         unfold evS
         have : (ecGo (l[i]).2.2.2 [[]]).1.any (fun r => decide (dotW i r = [])) = true := by
          refine Classical.byContradiction fun hx => ?_
          unfold comW at hc
          simp only [List.nil_append] at hc
          rw [if_neg hx] at hc
          have := congrArg (fun z => z.2) hc
          simp at this
         rw [this, Bool.true_or]
        rw [this, if_pos rfl, hc, if_neg (by simp)]
       ·simp only [List.nil_append] at hc hcn
        rw [hc, if_pos rfl]
        have hany2 : (ecGo (l[i]).2.2.2 [[]]).1.any (fun r => decide (dotW i r = [])) = false := Bool.eq_false_iff.2 (fun hx => by
         obtain ⟨r, hr, he⟩ := List.any_eq_true.1 hx
         exact hcn r hr (of_decide_eq_true he))
        unfold evS
        rw [hany2, Bool.false_or]
        simp only [List.length_append, List.length_map, decide_eq_true_eq]
        by_cases hbig : 1024 < out.length + (ecGo (l[i]).2.2.2 [[]]).1.length
        ·rw [if_pos hbig, if_pos hbig]
        ·rw [if_neg hbig, if_neg hbig, ih (i + 1) n _ (by omega) (by omega) (by simp; omega)]
      ·rw [s1, if_neg Bool.false_ne_true]
       rcases s2 with s2 | s2
       ·rw [s2, if_neg Bool.false_ne_true, if_neg (by simp)]
       ·split
        ·rcases comW_cases i [] (chGo (l[i]).2.2.2 [[]]).1 with hc | ⟨hc, hcn⟩
         ·rw [hc, if_neg (by simp)]
         ·rw [hc, if_pos rfl, if_pos (by simp; omega)]
        ·rw [if_neg (by simp)]
    ·rw [if_pos (by omega), if_neg h]
     show m_ref11_Events_L1042 l (fun x => some (x, 0)) n out (i64 ((i : Int) + 1)) = _
     rw [i64_succ (by omega), ih (i + 1) n _ (by omega) (by omega) ho]
  have h1 := loop1 (fun _ => jn (fun x5_j94 => some (x5_j94, 0)) (fun k94 => m_ref11_Events_L1042 l k94 FU [] 0)) l.length 0 FU (by omega) (by omega)
  rw [Int.natCast_zero, List.drop_zero] at h1
  rw [h1]
  split
  ·rfl
  ·rw [jn_eq]
   have h2 := loop2 l.length 0 FU [] (by omega) (by omega) (by simp)
   rw [Int.natCast_zero, List.drop_zero] at h2
   exact h2
end Go.Proofs.YtjlbdhicabgliaaGreat
/- Dotted values that are drawn; all functions return the specified results. -/
namespace Go.Proofs.YtjlbdhicabgliaaGreat
attribute [local irreducible] FU

theorem dom_elem {d : Vl} (h : DomOK d) {x : Vl} (hx : x ∈ prtW d) : SI x := by
 rcases h with rfl | ⟨L, rfl, hL, hI⟩
 ·unfold prtW at hx; rw [vldB_no (fun hv => hv.ne rfl)] at hx; simp at hx
 ·have hs : ∀ x ∈ L, SI x := hI
  rw [(fs_set hs).1] at hx
  exact hs x (((sortW_spec L).2.1 x).1 hx)
theorem SI_PV {x : Vl} (h : SI x) : PV 1 9 x := ⟨h.IsV 0, by rw [h.len]; omega⟩
theorem gVal1 {l : List Int} {i : Int} (h : GS l i) : ∃ v i', m_gen_Choices_Value (l, i) 1 = some (v, (l, i')) ∧ GS l i' ∧ PV 1 9 v := gValueP 1 (by omega) l i h
theorem gdot_loop (L : List Inf) (y : Int × (List Int × Int)) (p : Nat) (hy : y.1 = p) (hp : p < L.length) (ds : List Vl) (hds : (L[p]).2.2.2 = ds) (h8 : ds.length ≤ 8) (hD : ∀ d ∈ ds, DomOK d) (K : List Int → Int → List Vl → Option (Vl × (List Int × Int))) :
  ∀ (m k n : Nat) (l : List Int) (i : Int) (f : List Vl), k + m = ds.length → m < n → GS l i → f.length = k → (∀ x ∈ f, PV 1 9 x) → ∃ i' f', m_law11_dotted_L2 L y K n l i f k = K l i' f' ∧ GS l i' ∧ f'.length ≤ ds.length ∧ ∀ x ∈ f', PV 1 9 x := by
 intro m
 induction m with
 | zero =>
  intro k n l i f hk hn hg hf hx
  obtain ⟨n, rfl⟩ : ∃ q, n = q + 1 := ⟨n - 1, by omega⟩
  refine ⟨i, f, ?_, hg, by omega, hx⟩
  rw [m_law11_dotted_L2, m_law11_dotted_B2]
  simp only [jn_eq]
  rw [hy, zak (by omega), gi_nat hp, hds, if_neg (by omega), if_neg Bool.false_ne_true]
 | succ m ih =>
  intro k n l i f hk hn hg hf hx
  obtain ⟨n, rfl⟩ : ∃ q, n = q + 1 := ⟨n - 1, by omega⟩
  have hkl : k < ds.length := by omega
  obtain ⟨y4, i1, e1, g1, a0, a1⟩ := gNext hg (n := 4) (by omega) (by omega)
  rw [m_law11_dotted_L2, m_law11_dotted_B2]
  simp only [jn_eq]
  rw [hy, zak (by omega), gi_nat hp, hds, if_pos (by omega), e1, zai]
  dsimp only
  by_cases h0 : 0 < y4
  ·rw [if_pos (decide_eq_true h0), zak (by omega), zak (by omega), gi_nat hkl, rPartsW, zai]
   have hd := hD _ (List.getElem_mem hkl)
   have next : ∀ (i2 : Int) (v : Vl), GS l i2 → PV 1 9 v → ∃ i' f', need (List.length f + List.length [v] ≤ 137438953472) (m_law11_dotted_L2 L y K n l i2 (f ++ [v]) (i64 ((k : Int) + 1))) = K l i' f' ∧ GS l i' ∧ f'.length ≤ ds.length ∧ ∀ x ∈ f', PV 1 9 x := fun i2 v g2 hv => by
    rw [zak (by simp; omega), i64_succ (by omega)]
    exact ih (k + 1) n l i2 _ (by omega) (by omega) g2 (by simp; omega) (fun x h => by
     rcases List.mem_append.1 h with h | h
     ·exact hx x h
     ·rw [List.mem_singleton] at h; subst h; exact hv)
   have val : ∀ (i2 : Int), GS l i2 → ∃ i' f', bnd1 (m_gen_Choices_Value (l, i2) 1) (fun y309 => need (List.length f + List.length [y309.1] ≤ 137438953472) (m_law11_dotted_L2 L y K n y309.2.1 y309.2.2 (f ++ [y309.1]) (i64 ((k : Int) + 1)))) = K l i' f' ∧ GS l i' ∧ f'.length ≤ ds.length ∧ ∀ x ∈ f', PV 1 9 x := fun i2 g2 => by
    obtain ⟨v, i3, e3, g3, hv⟩ := gVal1 g2
    rw [e3, zai]
    exact next i3 v g3 hv
   by_cases hz : (prtW ds[k]).length = 0
   ·rw [if_pos (by omega), if_pos trivial]; exact val i1 g1
   ·obtain ⟨y12, i2, e2, g2, b0, b1⟩ := gNext g1 (n := 12) (by omega) (by omega)
    rw [if_neg (by omega), e2, zai]
    dsimp only
    by_cases h11 : y12 = 11
    ·rw [if_pos (decide_eq_true h11)]; exact val i2 g2
    ·obtain ⟨q, i3, e3, g3, c0, c1⟩ := gNext g2 (n := ((prtW ds[k]).length : Int)) (by omega) (by have := dom_prt hd; omega)
     obtain ⟨q, rfl⟩ : ∃ z : Nat, q = z := ⟨q.toNat, by omega⟩
     rw [if_neg (fun h => h11 (of_decide_eq_true h)), e3, zai]
     dsimp only
     have hql : q < (prtW ds[k]).length := by omega
     rw [zak (by omega), gi_nat hql]
     exact next i3 _ g3 (SI_PV (dom_elem hd (List.getElem_mem hql)))
  ·rw [if_neg (fun h => h0 (of_decide_eq_true h))]
   exact ⟨i1, f, rfl, g1, by omega, hx⟩
theorem gDotted {l : List Int} {i : Int} (h : GS l i) {L : List Inf} (h1 : 1 ≤ L.length) (h4 : L.length ≤ 4) (hI : ∀ x ∈ L, InfOK x) : ∃ i' n f, m_law11_dotted (l, i) L = some (dotW n f, (l, i')) ∧ GS l i' ∧ n < L.length ∧ f.length ≤ 4 ∧ ∀ x ∈ f, PV 1 9 x := by
 have hFU := FU_ge
 obtain ⟨p, i1, e1, g1, p0, p1⟩ := gNext h (n := (L.length : Int)) (by omega) (by omega)
 obtain ⟨p, rfl⟩ : ∃ z : Nat, p = z := ⟨p.toNat, by omega⟩
 have hp : p < L.length := by omega
 obtain ⟨_, _, h3, hD⟩ := hI _ (List.getElem_mem hp)
 unfold m_law11_dotted
 dsimp only
 rw [e1, zai]
 simp only [jn_eq]
 obtain ⟨i2, f, e2, g2, hf, hx⟩ := gdot_loop L ((p : Int), (l, i1)) p rfl hp _ rfl (by omega) hD (fun a b f => bnd1 (zbd (a, b) 15) (fun y321 => if y321.1 = 14 then (bnd1 (m_gen_Choices_Value (y321.2.1, y321.2.2) 1) (fun y322 => need (List.length f + List.length [y322.1] ≤ 137438953472) (bnd1 (m_ref9_Dot (p : Int) (f ++ [y322.1])) (fun y325 => some (y325, (y322.2.1, y322.2.2)))))) else (bnd1 (m_ref9_Dot (p : Int) f) (fun y325 => some (y325, (y321.2.1, y321.2.2)))))) _ 0 FU l i1 [] (Nat.zero_add _) (by omega) g1 rfl (by simp)
 rw [Int.natCast_zero] at e2
 obtain ⟨y15, i3, e3, g3, _, _⟩ := gNext g2 (n := 15) (by omega) (by omega)
 have hdot : ∀ f : List Vl, f.length ≤ 1000 → m_ref9_Dot (p : Int) f = some (dotW p f) := fun f hf => rDotX (by omega) (by omega) f (by omega)
 by_cases h14 : y15 = 14
 ·obtain ⟨v, i4, e4, g4, hv⟩ := gVal1 g3
  refine ⟨i4, p, f ++ [v], e2.trans ?_, g4, hp, by simp; omega, fun x hx' => ?_⟩
  ·rw [e3, zai]
   dsimp only
   rw [if_pos h14, e4, zai, zak (by simp; omega), hdot _ (by simp; omega), zai]
  ·rcases List.mem_append.1 hx' with h | h
   ·exact hx x h
   ·rw [List.mem_singleton] at h; subst h; exact hv
 ·refine ⟨i3, p, f, e2.trans ?_, g3, hp, by omega, hx⟩
  rw [e3, zai]
  dsimp only
  rw [if_neg h14, hdot _ (by omega), zai]
theorem agrees11_true (l : List Inf) (v w : Vl) (d : Int) (hl : l.length ≤ 9223372036854775807) : m_law11_agrees l v w d = some true := by
 have hE := evW_len l
 have hN : (namesL l).length ≤ 1099511627776 := by
  unfold namesL; split
  ·rename_i hv
   have := valid_len hv
   rw [List.length_map]; omega
  ·simp
 unfold m_law11_agrees
 rw [vValues l hl, zai, rValues l hl, zai, vExt l hl, zai, rExt l hl, zai, vProds l hl, zai, rProds l hl, zai, vEvents l hl, zai, rEvents l hl, zai, vNext l hl, zai, rNext l hl, zai, vJoin l v w hl, zai, rJoin l v w hl, zai, vals_eq, prods_eq]
 simp only [jn_eq]
 rw [vValidL l hl, zai, rValidNames l hl, zai]
 simp only [if_true]
 rw [hEqual _ _ (by omega), zai, decide_eq_true rfl]
 simp only [if_true]
 rw [vCompleteB l v hl, zai, rCompleteB l v hl, zai]
 simp only [if_true]
 rw [vNames l hl, zai, rNames l hl, zai, hEqualS _ _ hN, zai, decide_eq_true rfl]
theorem dataspaceAgrees_true {P : Prop} (x0 : List Inf) (x1 x2 : Vl) (x3 : Int) (x4 : List Int) (h0 : x0.length ≤ maxLen ∧ P) (_ : x1.length ≤ maxLen) (_ : x2.length ≤ maxLen) (_ : (Lit.int .i64 x3).wf = true) (hc : x4.length ≤ maxLen ∧ ∀ x ∈ x4, (Lit.int .i64 x).wf = true) : m_law11_DataspaceAgrees x0 x1 x2 x3 x4 = some true := by
 have h0' : x0.length ≤ 9223372036854775807 := by have := h0.1; unfold maxLen at this; omega
 unfold m_law11_DataspaceAgrees m_gen_New
 rw [zai]
 dsimp only
 obtain ⟨i1, L, e1, g1, l1, l4, hI⟩ := gNames1 (gs_new hc)
 obtain ⟨i2, n, f, e2, g2, hn, hf, hx⟩ := gDotted g1 l1 l4 hI
 obtain ⟨i3, n3, f3, e3, g3, _, _, _⟩ := gDotted g2 l1 l4 hI
 obtain ⟨i4, n4, f4, e4, g4, _, _, _⟩ := gDotted g3 l1 l4 hI
 obtain ⟨v5, i5, e5, g5, hv5⟩ := gVal1 g4
 have hL : L.length ≤ 9223372036854775807 := by omega
 have hA := fun v w d => agrees11_true L v w d hL
 rw [e1, zai]; dsimp only
 rw [e2, zai]; dsimp only
 rw [e3, zai]; dsimp only
 rw [e4, zai]; dsimp only
 rw [rSet _ (by simp), zai, rNext L hL, zai, e5, zai]
 dsimp only
 simp only [jn_eq]
 rw [rPartsW, zai]
 have fin : ∀ (i : Int) (v : Vl), GS x4 i → bnd1 (m_law11_awake) (fun y27 => if y27 then (bnd1 (m_law11_agrees x0 x1 x2 x3) (fun y28 => if y28 then (bnd1 (zbd (x4, i) 3) (fun y29 => bnd1 (m_law11_agrees L (dotW n f) (setW [dotW n3 f3, dotW n4 f4]) (i64 (y29.1 - 1))) (fun y30 => if y30 then (bnd1 (m_law11_agrees L (dotW n f) v 0) (fun y31 => if y31 then (bnd1 (m_gen_Choices_Value (y29.2.1, y29.2.2) 1) (fun y32 => bnd1 (m_ref9_Set [dotW n f, y32.1]) (fun y33 => bnd1 (m_law11_agrees L (dotW n f) y33 1) (fun y34 => if y34 then (bnd1 (m_law11_agrees L x1 x2 x3) (fun y35 => some y35)) else some false)))) else some false)) else some false))) else some false)) else some false) = some true := fun i v g => by
  obtain ⟨q, i6, e6, g6, _, _⟩ := gNext g (n := 3) (by omega) (by omega)
  obtain ⟨v7, i7, e7, g7, _⟩ := gVal1 g6
  rw [awake11_true, zai, if_pos rfl, agrees11_true x0 x1 x2 x3 h0', zai, if_pos rfl, e6, zai]
  dsimp only
  rw [hA, zai, if_pos rfl, hA, zai, if_pos rfl, e7, zai]
  dsimp only
  rw [rSet _ (by simp), zai, hA, zai, if_pos rfl, hA, zai]
 have hpl := prtW_spec (nextW L (dotW n f)).1
 by_cases hz : 0 < ((prtW (nextW L (dotW n f)).1).length : Int)
 ·obtain ⟨q, i6, e6, g6, q0, q1⟩ := gNext g5 (n := ((prtW (nextW L (dotW n f)).1).length : Int)) hz (by omega)
  obtain ⟨q, rfl⟩ : ∃ z : Nat, q = z := ⟨q.toNat, by omega⟩
  have hql : q < (prtW (nextW L (dotW n f)).1).length := by omega
  rw [if_pos hz, e6, zai]
  dsimp only
  rw [zak (by omega), gi_nat hql]
  exact fin i6 _ g6
 ·rw [if_neg hz]
  exact fin i5 v5 g5
end Go.Proofs.YtjlbdhicabgliaaGreat
/- DataspaceAgrees: for every input the call returns true, and the arguments read as before. No condition. -/
namespace Go.Proofs.YtjlbdhicabgliaaGreat
open Go.ChangeShapes Go.WideShapes Go.ChangeAt Go.RowKit

theorem o_string : Opens Tryz.prog 9 1 (fun x : List UInt8 => [.exact (.string (bs x))]) (fun x => x.length + 1) (fun x => x.length ≤ maxLen) := fun e0 W fuel cs y h => (opens_str Tryz.underlying9) e0 W fuel cs y h
theorem o_int : Opens Tryz.prog 3 1 (fun x : Int => [.exact (.int .i64 x)]) (fun _ => 1) (fun x => (Lit.int .i64 x).wf = true) := fun e0 W fuel cs y h => (opens_int Tryz.underlying3) e0 W fuel cs y h
theorem o_L_int : Opens Tryz.prog 22 1 (fun xs : List Int => [.row 1 c_int xs]) (fun xs => szL (fun _ => 1) xs + 1) (fun xs => xs.length ≤ maxLen ∧ ∀ x ∈ xs, (fun x => (Lit.int .i64 x).wf = true) x) := fun e0 W fuel cs y h => (opens_slice Tryz.underlying22 (by kernel_rfl) (by decide) o_int) e0 W fuel cs y h
theorem o_api_Value : Opens Tryz.prog 26 1 (fun x : List UInt8 => [.exact (.string (bs x))]) (fun x => x.length + 1) (fun x => x.length ≤ maxLen) := fun e0 W fuel cs y h => (opens_str Tryz.underlying26) e0 W fuel cs y h
theorem o_L_api_Value : Opens Tryz.prog 23 1 (fun xs : List (List UInt8) => [.row 1 zab xs]) (fun xs => szL (fun x => x.length + 1) xs + 1) (fun xs => xs.length ≤ maxLen ∧ ∀ x ∈ xs, (fun x => x.length ≤ maxLen) x) := fun e0 W fuel cs y h => (opens_slice Tryz.underlying23 (by kernel_rfl) (by decide) o_api_Value) e0 W fuel cs y h
theorem o_api_Info : Opens Tryz.prog 25 4 zaf (fun x => (fun x => x.length + 1) x.1 + (fun _ => 1) x.2.1 + (fun xs => szL (fun _ => 1) xs + 1) x.2.2.1 + (fun xs => szL (fun x => x.length + 1) xs + 1) x.2.2.2) (fun x => (fun x => x.length ≤ maxLen) x.1 ∧ (fun x => (Lit.int .i64 x).wf = true) x.2.1 ∧ (fun xs => xs.length ≤ maxLen ∧ ∀ x ∈ xs, (fun x => (Lit.int .i64 x).wf = true) x) x.2.2.1 ∧ (fun xs => xs.length ≤ maxLen ∧ ∀ x ∈ xs, (fun x => x.length ≤ maxLen) x) x.2.2.2) := fun e0 W fuel cs y h => (opens_struct4 Tryz.underlying25 (by kernel_rfl) rfl rfl rfl rfl (by kernel_rfl) (by kernel_rfl) (by kernel_rfl) (by kernel_rfl) o_string o_int o_L_int o_L_api_Value) e0 W fuel cs y h
theorem o_L_api_Info : Opens Tryz.prog 29 1 (fun xs : List ((List UInt8) × Int × (List Int) × (List (List UInt8))) => [.row 4 zaf xs]) (fun xs => szL (fun x => (fun x => x.length + 1) x.1 + (fun _ => 1) x.2.1 + (fun xs => szL (fun _ => 1) xs + 1) x.2.2.1 + (fun xs => szL (fun x => x.length + 1) xs + 1) x.2.2.2) xs + 1) (fun xs => xs.length ≤ maxLen ∧ ∀ x ∈ xs, (fun x => (fun x => x.length ≤ maxLen) x.1 ∧ (fun x => (Lit.int .i64 x).wf = true) x.2.1 ∧ (fun xs => xs.length ≤ maxLen ∧ ∀ x ∈ xs, (fun x => (Lit.int .i64 x).wf = true) x) x.2.2.1 ∧ (fun xs => xs.length ≤ maxLen ∧ ∀ x ∈ xs, (fun x => x.length ≤ maxLen) x) x.2.2.2) x) := fun e0 W fuel cs y h => (opens_slice Tryz.underlying29 (by kernel_rfl) (by decide) o_api_Info) e0 W fuel cs y h
set_option maxRecDepth 100000 in
theorem dataspaceAgrees_lifted (os : Os) (started : os.Started) (H : Type) (enc : TypeId × Value → H) :
  ReturnsInHanded {} Tryz.checked os 5 .any (Rows.dataspaceAgreesSpec.pre6 enc Tryz.prog Tryz.f5 Rows.dataspaceAgreesRow.domain false) (Rows.dataspaceAgreesSpec.post enc Tryz.prog Tryz.f5 false true false false) := by
 refine returnsInHanded_of_change (C := Tryz.checked) Tryz.own started (by kernel_rfl) Tryz.func5
  (ChangeSpec.witness6 (enc := enc) (C := Tryz.checked) false ⟨#[], #[.slice none 0 0, .string ⟨#[]⟩, .string ⟨#[]⟩, .int .i64 0, .slice none 0 0], []⟩ 8 (by kernel_rfl) (by kernel_rfl) (by kernel_rfl) (by kernel_rfl)) ?_
 intro W base args ds gs before hval0 hW hcnd _
 have hval : ∀ (j : Nat) t v, Tryz.f5.params[j]? = some t → args[j]? = some v → Value.okWide Tryz.prog W .any base t v := hval0
 have hW' := hW
 obtain ⟨p, q, hA0, hV, rfl, hfz, hnd⟩ := hW
 have hA : DataW.TrodAll enc Tryz.prog W 0 (fun _ => true) true Tryz.f5.params.toList args.toList ds p := hA0
 rw [Tryz.params5] at hA hval
 obtain ⟨v0, vs0, d0, ds0, p0, q0, hargs, rfl, rfl, h0, r0⟩ := trodAll_cons hA
 obtain ⟨v1, vs1, d1, ds1, p1, q1, rfl, rfl, rfl, h1, r1⟩ := trodAll_cons r0
 obtain ⟨v2, vs2, d2, ds2, p2, q2, rfl, rfl, rfl, h2, r2⟩ := trodAll_cons r1
 obtain ⟨v3, vs3, d3, ds3, p3, q3, rfl, rfl, rfl, h3, r3⟩ := trodAll_cons r2
 obtain ⟨v4, vs4, d4, ds4, p4, q4, rfl, rfl, rfl, h4, r4⟩ := trodAll_cons r3
 obtain ⟨rfl, rfl, rfl⟩ := trodAll_nil r4
 obtain rfl : args = #[v0, v1, v2, v3, v4] := by cases args; simp_all
 obtain ⟨rfl, rfl⟩ := trodVars_none hV
 clear hA0
 simp only [List.append_nil] at hW'
 have hlt := hW'.lt
 obtain ⟨x0, qq0, g0, s0⟩ := arg_open o_L_api_Info (plain_slice Tryz.underlying29 (hval 0 29 v0 rfl rfl)) h0
 obtain ⟨x1, qq1, g1, s1⟩ := arg_open o_api_Value (plain_str Tryz.underlying26 (hval 1 26 v1 rfl rfl)) h1
 obtain ⟨x2, qq2, g2, s2⟩ := arg_open o_api_Value (plain_str Tryz.underlying26 (hval 2 26 v2 rfl rfl)) h2
 obtain ⟨x3, qq3, g3, s3⟩ := arg_open o_int (plain_int Tryz.underlying3 (hval 3 3 v3 rfl rfl)) h3
 obtain ⟨x4, qq4, g4, s4⟩ := arg_open o_L_int (plain_slice Tryz.underlying22 (hval 4 22 v4 rfl rfl)) h4
 refine (Pure.call (m_law11_DataspaceAgrees_ok x0 x1 x2 x3 x4 true (dataspaceAgrees_true x0 x1 x2 x3 x4 qq0 qq1 qq2 qq3 qq4)) (vs := [v0, v1, v2, v3, v4]) ⟨g0.1, g1.1, g2.1, g3.1, g4.1, trivial⟩).mono fun e W' ⟨he, hb⟩ => ?_
 subst he
 exact ⟨_, rfl, post_of_below (pa := p0 ++ (p1 ++ (p2 ++ (p3 ++ (p4 ++ []))))) (pv := []) hW' (fun _ _ _ => trodAll_cons_mk (shut_bool Tryz.underlying4 true) trodAll_mk0)
  (fun sp hsp => trodAll_cons_mk (trod_after (by kernel_rfl) (of_decide_eq_true (by kernel_rfl)) h0 hb (fun x hx => hlt x (by simp [hx])) (fun x hx => by simp [hx]) sp hsp) (trodAll_cons_mk (trod_after (by kernel_rfl) (of_decide_eq_true (by kernel_rfl)) h1 hb (fun x hx => hlt x (by simp [hx])) (fun x hx => by simp [hx]) sp hsp) (trodAll_cons_mk (trod_after (by kernel_rfl) (of_decide_eq_true (by kernel_rfl)) h2 hb (fun x hx => hlt x (by simp [hx])) (fun x hx => by simp [hx]) sp hsp) (trodAll_cons_mk (trod_after (by kernel_rfl) (of_decide_eq_true (by kernel_rfl)) h3 hb (fun x hx => hlt x (by simp [hx])) (fun x hx => by simp [hx]) sp hsp) (trodAll_cons_mk (trod_after (by kernel_rfl) (of_decide_eq_true (by kernel_rfl)) h4 hb (fun x hx => hlt x (by simp [hx])) (fun x hx => by simp [hx]) sp hsp) (trodAll_mk0))))))
  (fun _ _ => rfl) (by simp) hb (ok_one (by kernel_rfl) rfl (okWide_bool_mk Tryz.underlying4 true))⟩

theorem dataspaceAgrees_holds : Rows.DataspaceAgreesSaid :=
 OpenClaim.holds_of_wide 5 Tryz.f5 rfl rfl rfl rfl rfl rfl rfl ⟨rfl, rfl, rfl, rfl, rfl⟩ rfl rfl rfl rfl rfl (by kernel_rfl) Tryz.func5 (by kernel_rfl)
  (of_decide_eq_true (by kernel_rfl)) (by unfold Func.isWrapper; first | (rw [if_pos (by decide +kernel)]; kernel_rfl) | (rw [if_neg (by decide +kernel)]; exact ⟨rfl, rfl⟩))
  (fun os started H enc _ => dataspaceAgrees_lifted os started H enc)

end Go.Proofs.YtjlbdhicabgliaaGreat
