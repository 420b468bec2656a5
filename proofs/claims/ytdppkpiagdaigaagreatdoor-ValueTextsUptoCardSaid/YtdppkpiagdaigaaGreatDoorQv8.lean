/- Decimal numerals: the reference's are those of the library. -/
import Derived.Test.YtdppkpiagdaigaaGreatDoorQv2
import Derived.Test.YtdppkpiagdaigaaGreatDoorQv0
import Derived.Test.YtdppkpiagdaigaaGreatDoorQv4
import Derived.Test.YtdppkpiagdaigaaGreatDoorQv7
import Derived.LaidMore
import Derived.Deep.DeepWitnessRowRef
import Derived.Deep.DeepHandedRow
import Derived.Stop.Joined
import Derived.SevenTiedAt
import Derived.Test.YtdppkpiagdaigaaGreatDoorTie
import Derived.Test.YtdppkpiagdaigaaGreatDoorCards
namespace Go.Proofs.YtdppkpiagdaigaaGreatDoor
attribute [local irreducible] FU
theorem dec_len : ∀ (k u : Nat), u < 10 ^ (k + 1) → (Lib.decDigits u).length ≤ k + 1
  | k, u, h => by
    rw [Lib.decDigits]
    split
    · simp
    · rename_i h0
      match k, h with
      | 0, h => simp at h; omega
      | k + 1, h =>
        rw [List.length_append, List.length_singleton]
        have := dec_len k (u / 10) (by rw [Nat.pow_succ] at h; omega)
        omega
theorem itoa_len {n : Int} (h0 : -9223372036854775808 ≤ n) (h1 : n ≤ 9223372036854775807) : (Lib.itoa n).length ≤ 20 := by
  unfold Lib.itoa
  split
  · rw [List.length_cons]
    have := dec_len 18 n.natAbs (by omega)
    omega
  · have := dec_len 18 n.toNat (by omega)
    omega
theorem vItoa {n : Int} (h0 : -9223372036854775808 ≤ n) (h1 : n ≤ 9223372036854775807) : m_itoa n 10 = some (Lib.itoa n) := by
  unfold m_itoa
  rw [need_pos ⟨rfl, h0, h1⟩]
theorem dig_at {d : Nat} (hd : d < 10) : List.take (Int.toNat (IntKind.u64.wrap ((d : Int) + 1)) - Int.toNat (d : Int)) (List.drop (Int.toNat (d : Int)) ([48, 49, 50, 51, 52, 53, 54, 55, 56, 57] : List UInt8)) = [UInt8.ofNat (48 + d)] := by
  have h : d = 0 ∨ d = 1 ∨ d = 2 ∨ d = 3 ∨ d = 4 ∨ d = 5 ∨ d = 6 ∨ d = 7 ∨ d = 8 ∨ d = 9 := by omega
  rcases h with rfl | rfl | rfl | rfl | rfl | rfl | rfl | rfl | rfl | rfl <;> first | rfl | decide
theorem tmod10 (u : Nat) : Int.tmod (u : Int) 10 = ((u % 10 : Nat) : Int) := rfl
theorem tdiv10 (u : Nat) : Int.tdiv (u : Int) 10 = ((u / 10 : Nat) : Int) := rfl
theorem dec_step (u : Nat) (acc : List UInt8) : (if u = 0 then [] else Lib.decDigits u) ++ acc = if u = 0 then acc else (if u / 10 = 0 then [] else Lib.decDigits (u / 10)) ++ ([UInt8.ofNat (48 + u % 10)] ++ acc) := by
  by_cases h : u = 0
  · rw [if_pos h, if_pos h, List.nil_append]
  · rw [if_neg h, if_neg h, Lib.decDigits]
    by_cases h10 : u < 10
    · rw [dif_pos h10, if_pos (by omega), show u % 10 = u by omega, List.nil_append]
    · rw [dif_neg h10, if_neg (by omega), List.append_assoc]
theorem decL (K : List UInt8 → Option (List UInt8)) : ∀ (m u n : Nat) (acc : List UInt8), u < 10 ^ m → u < 18446744073709551616 → m < n → acc.length + m ≤ 1000 → m_ref9_Decimal_L2 K n (u : Int) acc = K ((if u = 0 then [] else Lib.decDigits u) ++ acc)
  | m, u, 0, _, _, _, h, _ => by omega
  | 0, u, n + 1, acc, h, _, _, _ => by
    have h0 : u = 0 := by simp at h; omega
    rw [m_ref9_Decimal_L2, m_ref9_Decimal_B2, if_neg (by omega), if_pos h0, List.nil_append]
  | m + 1, u, n + 1, acc, h, hu, hn, ha => by
    rw [m_ref9_Decimal_L2, m_ref9_Decimal_B2, dec_step]
    by_cases h0 : u = 0
    · rw [if_neg (by omega), if_pos h0]
    · have hw : IntKind.u64.wrap (((u % 10 : Nat) : Int) + 1) = ((u % 10 : Nat) : Int) + 1 := by rw [wrap_u64]; omega
      have hw2 : IntKind.u64.wrap ((u / 10 : Nat) : Int) = ((u / 10 : Nat) : Int) := by rw [wrap_u64]; omega
      rw [if_pos (by omega), if_neg h0, tmod10, tdiv10, need_pos (by rw [hw]; simp; omega), dig_at (by omega), need_pos (by simp; omega), hw2, decL K m (u / 10) n _ (by rw [Nat.pow_succ] at h; omega) (by omega) (by omega) (by simp; omega)]
theorem rDecimal {x : Int} (h0 : -9223372036854775808 ≤ x) (h1 : x ≤ 9223372036854775807) : m_ref9_Decimal x = some (Lib.itoa x) := by
  have go : ∀ (u : Nat) (s : List UInt8), u < 18446744073709551616 → s.length ≤ 10 → (fun (x3_j1 : Int) (x4_j1 : List UInt8) => need ((0 : Int) ≤ Int.tmod x3_j1 10 ∧ (Int.tmod x3_j1 10) ≤ IntKind.u64.wrap ((Int.tmod x3_j1 10) + 1) ∧ (IntKind.u64.wrap ((Int.tmod x3_j1 10) + 1)) ≤ (List.length [48, 49, 50, 51, 52, 53, 54, 55, 56, 57] : Int)) (jn (fun (x5_j3 : List UInt8) => need (List.length (x4_j1 : List UInt8) + List.length x5_j3 ≤ 9223372036854775807) (some (x4_j1 ++ x5_j3))) (fun k3 => m_ref9_Decimal_L2 k3 FU (IntKind.u64.wrap (Int.tdiv x3_j1 10)) (List.take (Int.toNat (IntKind.u64.wrap ((Int.tmod x3_j1 10) + 1)) - Int.toNat (Int.tmod x3_j1 10)) (List.drop (Int.toNat (Int.tmod x3_j1 10)) [48, 49, 50, 51, 52, 53, 54, 55, 56, 57]))))) (u : Int) s = some (s ++ Lib.decDigits u) := fun u s hu hs => by
    have hw : IntKind.u64.wrap (((u % 10 : Nat) : Int) + 1) = ((u % 10 : Nat) : Int) + 1 := by rw [wrap_u64]; omega
    have hw2 : IntKind.u64.wrap ((u / 10 : Nat) : Int) = ((u / 10 : Nat) : Int) := by rw [wrap_u64]; omega
    have hd := dec_len 19 u (by omega)
    have e : (if u / 10 = 0 then [] else Lib.decDigits (u / 10)) ++ [UInt8.ofNat (48 + u % 10)] = Lib.decDigits u := by
      conv => rhs; rw [Lib.decDigits]
      by_cases h10 : u < 10
      · rw [dif_pos h10, if_pos (by omega), show u % 10 = u by omega, List.nil_append]
      · rw [dif_neg h10, if_neg (by omega)]
    dsimp only
    rw [tmod10, tdiv10, need_pos (by rw [hw]; simp; omega), jn_eq, dig_at (by omega), hw2, decL _ 19 (u / 10) FU _ (by omega) (by omega) (by have := FU_ge; omega) (by simp), e, need_pos (by omega)]
  unfold m_ref9_Decimal Lib.itoa
  rw [jn_eq]
  by_cases hx : x < 0
  · have hu : IntKind.u64.wrap (-(IntKind.u64.wrap x)) = (x.natAbs : Int) := by rw [wrap_u64, wrap_u64]; omega
    rw [if_pos hx, if_pos hx, hu, go _ _ (by omega) (by simp)]
    rfl
  · have hu : IntKind.u64.wrap x = (x.toNat : Int) := by rw [wrap_u64]; omega
    rw [if_neg hx, if_neg hx, hu, go _ _ (by omega) (by simp), List.nil_append]
end Go.Proofs.YtdppkpiagdaigaaGreatDoor
/- Texts of values: what the program writes. -/
namespace Go.Proofs.YtdppkpiagdaigaaGreatDoor
attribute [local irreducible] FU
theorem i64_rngT (x : Int) : -9223372036854775808 ≤ i64 x ∧ i64 x ≤ 9223372036854775807 := by
  unfold i64 IntKind.wrap IntKind.bits IntKind.signed
  simp; omega
/-- Keys and elements joined. -/
def prsT : List (List UInt8) → List (List UInt8)
  | a :: b :: l => (a ++ [32, 61, 62, 32] ++ b) :: prsT l
  | _ => []
def wrapT (c : UInt8) (l : List (List UInt8)) : List UInt8 :=
  if c = 4 then [60] ++ Lib.join l [44, 32] ++ [62]
  else if c = 5 then [123] ++ Lib.join l [44, 32] ++ [125]
  else if c = 6 then [40, 124] ++ Lib.join (prsT l) [44, 32] ++ [124, 41]
  else if c = 7 then Lib.join l [46]
  else if c = 8 then [102, 117, 110, 40] ++ Lib.join l [44, 32] ++ [41]
  else if c = 9 then [112, 114, 111, 99, 40] ++ Lib.join l [44, 32] ++ [41]
  else [40] ++ Lib.join l [44, 32] ++ [41]
def nameN (v : List UInt8) : Nat := (gi v 1).toNat * 256 + (gi v 2).toNat
/-- The text of a value that is nested at most k deep. -/
def txt (nm : List (List UInt8)) : Nat → List UInt8 → List UInt8
  | 0, _ => []
  | k + 1, v => if gi v 0 = 1 then Lib.itoa (i64 (beNat ((v.drop 1).take 8)))
    else if gi v 0 = 2 then (if gi v 1 = 1 then [116, 114, 117, 101] else [102, 97, 108, 115, 101])
    else if gi v 0 = 10 then (if nameN v < nm.length then gi nm (nameN v : Int) else [63] ++ Lib.itoa (nameN v : Int))
    else wrapT (gi v 0) ((partsV k v).map (txt nm k))
theorem txt_comp {nm : List (List UInt8)} {k : Nat} {c h l : UInt8} {ps : List (List UInt8)} (hc : 3 ≤ c.toNat ∧ c.toNat ≤ 9) (hn : ps.length = h.toNat * 256 + l.toNat) (hp : ∀ p ∈ ps, Sh k p) : txt nm (k + 1) (c :: h :: l :: ps.flatten) = wrapT c (ps.map (txt nm k)) := by
  obtain ⟨n1, n2, n3⟩ := kind_ne hc
  rw [txt, gi_0, if_neg n1, if_neg n2, if_neg n3, partsV_eq hn hp]
/-! ### Lengths -/
def sumL (l : List (List UInt8)) (c : Nat) : Nat := (l.map (fun x => x.length + c)).sum
theorem sumL_cons (x : List UInt8) (l : List (List UInt8)) (c : Nat) : sumL (x :: l) c = x.length + c + sumL l c := by simp [sumL]
theorem sumL_mono (l : List (List UInt8)) {a b : Nat} (h : a ≤ b) : sumL l a ≤ sumL l b := by
  induction l with
  | nil => exact Nat.le_refl _
  | cons x l ih => rw [sumL_cons, sumL_cons]; omega
theorem joinTail_len (sep : List UInt8) : ∀ r : List (List UInt8), (Lib.joinTail sep r).length = sumL r sep.length
  | [] => rfl
  | x :: r => by
    rw [sumL_cons, ← joinTail_len sep r]
    simp [Lib.joinTail]; omega
theorem join_len (l : List (List UInt8)) (sep : List UInt8) : (Lib.join l sep).length ≤ sumL l sep.length := by
  cases l with
  | nil => rw [Lib.join_nil]; simp
  | cons x r => rw [Lib.join_cons, List.length_append, joinTail_len, sumL_cons]; omega
theorem prs_len : ∀ l : List (List UInt8), sumL (prsT l) 2 ≤ sumL l 4
  | [] => Nat.le_refl _
  | [x] => by simp [prsT, sumL]
  | a :: b :: l => by
    have := prs_len l
    rw [prsT, sumL_cons, sumL_cons, sumL_cons]
    simp; omega
theorem wrap_len (c : UInt8) (l : List (List UInt8)) : (wrapT c l).length ≤ sumL l 4 + 6 := by
  have h1 : (Lib.join l [44, 32]).length ≤ sumL l 2 := join_len l [44, 32]
  have h2 : (Lib.join (prsT l) [44, 32]).length ≤ sumL (prsT l) 2 := join_len (prsT l) [44, 32]
  have h3 : (Lib.join l [46]).length ≤ sumL l 1 := join_len l [46]
  have h4 := prs_len l
  have h5 := sumL_mono l (show 2 ≤ 4 by omega)
  have h6 := sumL_mono l (show 1 ≤ 4 by omega)
  unfold wrapT
  split
  · simp; omega
  · split
    · simp; omega
    · split
      · simp; omega
      · split
        · omega
        · split
          · simp; omega
          · split <;> (simp; omega)
/-- No name is longer than this. -/
def NmOk (nm : List (List UInt8)) : Prop := ∀ x ∈ nm, x.length ≤ 1048576
theorem NmOk.gi {nm : List (List UInt8)} (h : NmOk nm) (n : Nat) : (Go.Proofs.YtdppkpiagdaigaaGreatDoor.gi nm (n : Int)).length ≤ 1048576 := by
  by_cases hn : n < nm.length
  · rw [gi_nat hn]; exact h _ (List.getElem_mem hn)
  · have : Go.Proofs.YtdppkpiagdaigaaGreatDoor.gi nm (n : Int) = default := by
      unfold Go.Proofs.YtdppkpiagdaigaaGreatDoor.gi
      simp [List.getElem?_eq_none (Nat.le_of_not_lt hn)]
    rw [this]; exact Nat.zero_le _
theorem txt_len {nm : List (List UInt8)} (hnm : NmOk nm) {k : Nat} {v : List UInt8} (h : Sh k v) : (txt nm k v).length + 4 ≤ v.length * 1048596 := by
  induction h with
  | int k b hb =>
    have := itoa_len (i64_rngT (beNat (((1 :: b).drop 1).take 8))).1 (i64_rngT (beNat (((1 :: b).drop 1).take 8))).2
    rw [txt, gi_0, if_pos rfl, List.length_cons, hb]
    omega
  | bool k b hb =>
    rw [txt, gi_0, if_neg (by decide), if_pos rfl]
    split <;> simp
  | name k h l =>
    rw [txt, gi_0, if_neg (by decide), if_neg (by decide), if_pos rfl]
    have hb1 := h.toNat_lt
    have hb2 := l.toNat_lt
    have hN : nameN [10, h, l] ≤ 65535 := by unfold nameN; rw [gi_1, gi_2]; omega
    split
    · have := hnm.gi (nameN [10, h, l])
      simp only [List.length_cons, List.length_nil]; omega
    · have := itoa_len (n := (nameN [10, h, l] : Int)) (by omega) (by omega)
      simp only [List.length_cons, List.length_nil, List.length_append]; omega
  | comp k c h l ps hc hn hp ih =>
    rw [txt_comp hc hn hp]
    have h1 := wrap_len c (ps.map (txt nm k))
    have h2 : ∀ qs : List (List UInt8), (∀ p ∈ qs, (txt nm k p).length + 4 ≤ p.length * 1048596) → sumL (qs.map (txt nm k)) 4 ≤ qs.flatten.length * 1048596 := by
      intro qs
      induction qs with
      | nil => intro _; simp [sumL]
      | cons q qs ihq =>
        intro hq
        have a := hq q List.mem_cons_self
        have b := ihq (fun p hp => hq p (List.mem_cons_of_mem _ hp))
        rw [List.map_cons, sumL_cons, List.flatten_cons, List.length_append, Nat.add_mul]
        omega
    have h3 := h2 ps ih
    simp only [List.length_cons]
    omega
/-! ### The program -/
theorem vJoinT {l : List (List UInt8)} {sep : List UInt8} (hl : l.length ≤ 1000000) (hs : sumL l 4 ≤ 140737488355328) (h4 : sep.length ≤ 4) : m_join l sep = some (Lib.join l sep) := by
  unfold m_join
  rw [need_pos ⟨by omega, Nat.le_trans (join_len l sep) (Nat.le_trans (sumL_mono l h4) hs)⟩]
theorem vPairsT (l : List (List UInt8)) (hl : l.length ≤ 1000000) (hx : ∀ x ∈ l, x.length ≤ 1000000000000000) (he : l.length % 2 = 0) : m_value_pairs l = some (prsT l) := by
  have go : ∀ (m : Nat) (u : List (List UInt8)) (j n : Nat) (out : List (List UInt8)), u.length = 2 * m → l.drop j = u → j + u.length = l.length → m < n → out.length ≤ j → m_value_pairs_L2 l (fun x => some x) n out (j : Int) = some (out ++ prsT u) := by
    intro m
    induction m with
    | zero =>
      intro u j n out hu hd hj hn ho
      obtain ⟨n, rfl⟩ : ∃ q, n = q + 1 := ⟨n - 1, by omega⟩
      obtain rfl := List.eq_nil_of_length_eq_zero (show u.length = 0 by omega)
      simp only [List.length_nil] at hj
      rw [m_value_pairs_L2, m_value_pairs_B2, if_neg (by omega), prsT, List.append_nil]
      intro a b l h; cases h
    | succ m ih =>
      intro u j n out hu hd hj hn ho
      obtain ⟨n, rfl⟩ : ∃ q, n = q + 1 := ⟨n - 1, by omega⟩
      match u, hu with
      | a :: b :: u, hu =>
        simp only [List.length_cons] at hu hj
        have hja : j < l.length := by omega
        have hjb : j + 1 < l.length := by omega
        have h1 : l[j] = a ∧ l.drop (j + 1) = b :: u := by rw [List.drop_eq_getElem_cons hja] at hd; exact ⟨(List.cons.inj hd).1, (List.cons.inj hd).2⟩
        have h2 : l[j + 1] = b ∧ l.drop (j + 2) = u := by have h := h1.2; rw [List.drop_eq_getElem_cons hjb] at h; exact ⟨(List.cons.inj h).1, (List.cons.inj h).2⟩
        have xa := hx a (by rw [← h1.1]; exact List.getElem_mem hja)
        have xb := hx b (by rw [← h2.1]; exact List.getElem_mem hjb)
        have e1 : i64 ((j : Int) + 1) = ((j + 1 : Nat) : Int) := by rw [i64_id (by omega)]; omega
        have e2 : i64 ((j : Int) + 2) = ((j + 2 : Nat) : Int) := by rw [i64_id (by omega)]; omega
        rw [m_value_pairs_L2, m_value_pairs_B2, if_pos (by omega), need_pos (by omega), gi_nat hja, h1.1, e1, gi_nat hjb, h2.1, need_pos (by simp; omega), need_pos (by omega), need_pos (by simp; omega), need_pos (by simp; omega), e2, ih u (j + 2) n _ (by omega) h2.2 (by omega) (by omega) (by simp; omega), prsT, List.append_assoc]
        rfl
  unfold m_value_pairs
  rw [jn_eq]
  have := go (l.length / 2) l 0 FU [] (by omega) rfl (by omega) (by have := FU_ge; omega) (by simp)
  rw [show ((0 : Nat) : Int) = 0 from rfl] at this
  rw [this, List.nil_append]
theorem vTextL {self : List UInt8 → List (List UInt8) → Option (List UInt8)} {nm ps : List (List UInt8)} (hl : ps.length ≤ 1000000) {f : List UInt8 → List UInt8} (hf : ∀ p ∈ ps, self p nm = some (f p)) (K : List (List UInt8) → Option (List UInt8)) : ∀ (u : List (List UInt8)) (j n : Nat) (out : List (List UInt8)), ps.drop j = u → j + u.length = ps.length → u.length < n → out.length ≤ j → m_value_text_L2 self nm K ps n out (j : Int) = K (out ++ u.map f)
  | [], j, n, out, hd, hj, hn, ho => by
    obtain ⟨n, rfl⟩ : ∃ q, n = q + 1 := ⟨n - 1, by omega⟩
    simp only [List.length_nil] at hj
    rw [m_value_text_L2, m_value_text_B2, if_neg (by omega)]; simp
  | x :: u, j, n, out, hd, hj, hn, ho => by
    obtain ⟨n, rfl⟩ : ∃ q, n = q + 1 := ⟨n - 1, by omega⟩
    simp only [List.length_cons] at hj hn
    have hja : j < ps.length := by omega
    have h1 : ps[j] = x ∧ ps.drop (j + 1) = u := by rw [List.drop_eq_getElem_cons hja] at hd; exact ⟨(List.cons.inj hd).1, (List.cons.inj hd).2⟩
    have e1 : i64 ((j : Int) + 1) = ((j + 1 : Nat) : Int) := by rw [i64_id (by omega)]; omega
    rw [m_value_text_L2, m_value_text_B2, if_pos (by omega), need_pos (by omega), gi_nat hja, h1.1, hf x (by rw [← h1.1]; exact List.getElem_mem hja), bnd1_mk, need_pos (by simp; omega), e1, vTextL hl hf K u (j + 1) n _ h1.2 (by omega) (by omega) (by simp; omega), List.map_cons, List.append_assoc]
    rfl
theorem sum_mem {l : List (List UInt8)} {x : List UInt8} {c : Nat} (h : x ∈ l) : x.length ≤ sumL l c := by
  induction l with
  | nil => cases h
  | cons a l ih =>
    rw [sumL_cons]
    rcases List.mem_cons.1 h with rfl | h
    · omega
    · have := ih h; omega
theorem sum_txt {nm : List (List UInt8)} (hnm : NmOk nm) {k : Nat} : ∀ {ps : List (List UInt8)}, (∀ p ∈ ps, Sh k p) → sumL (ps.map (txt nm k)) 4 ≤ ps.flatten.length * 1048596
  | [], _ => by simp [sumL]
  | q :: qs, h => by
    have a := txt_len hnm (h q List.mem_cons_self)
    have b := sum_txt hnm (fun p hp => h p (List.mem_cons_of_mem _ hp)) (ps := qs)
    rw [List.map_cons, sumL_cons, List.flatten_cons, List.length_append, Nat.add_mul]
    omega
theorem vNumName {h l : UInt8} : m_value_Number [10, h, l] = some (nameN [10, h, l] : Int) := by
  have hk : kindW [10, h, l] = 10 := by unfold kindW; rw [if_pos (vldB_iff.2 ⟨(IsV.name 0 h l).le (by omega), by simp⟩)]; rfl
  unfold m_value_Number
  rw [vKind, hk, bnd1_mk, if_neg (by omega), if_neg (by omega), if_pos rfl, need_pos (by simp), need_pos (by simp), gi_1, gi_2, i64_step]
  rfl
theorem vText {nm : List (List UInt8)} (hnm : NmOk nm) {k : Nat} {v : List UInt8} (h : IsV k v) : k ≤ 32 → v.length ≤ 131072 → ∀ n, k ≤ n → m_value_text_S n v nm = some (txt nm k v) := by
  induction h with
  | int k b hb =>
    intro _ _ n hn
    obtain ⟨n, rfl⟩ : ∃ q, n = q + 1 := ⟨n - 1, by omega⟩
    rw [m_value_text_S, m_value_text_F, need_pos (by simp), gi_0, if_pos rfl, vInteger _ (by simp; omega), bnd1_mk, vItoa (i64_rngT _).1 (i64_rngT _).2, bnd1_mk, txt, gi_0, if_pos rfl]
  | bool k b hb =>
    intro _ _ n hn
    obtain ⟨n, rfl⟩ : ∃ q, n = q + 1 := ⟨n - 1, by omega⟩
    have ht : txt nm (k + 1) [2, b] = if gi [2, b] 1 = 1 then [116, 114, 117, 101] else [102, 97, 108, 115, 101] := by rw [txt, gi_0, if_neg (by decide), if_pos rfl]
    rw [ht, m_value_text_S, m_value_text_F, need_pos (by simp), gi_0, if_neg (by decide), if_pos rfl, need_pos (by simp)]
    split <;> rfl
  | name k h l =>
    intro _ _ n hn
    obtain ⟨n, rfl⟩ : ∃ q, n = q + 1 := ⟨n - 1, by omega⟩
    have hb1 := h.toNat_lt
    have hb2 := l.toNat_lt
    have hN : nameN [10, h, l] ≤ 65535 := by unfold nameN; rw [gi_1, gi_2]; omega
    have hi := itoa_len (n := (nameN [10, h, l] : Int)) (by omega) (by omega)
    have ht : txt nm (k + 1) [10, h, l] = if nameN [10, h, l] < nm.length then gi nm (nameN [10, h, l] : Int) else [63] ++ Lib.itoa (nameN [10, h, l] : Int) := by rw [txt, gi_0, if_neg (by decide), if_neg (by decide), if_pos rfl]
    rw [ht, m_value_text_S, m_value_text_F, need_pos (by simp), gi_0, if_neg (by decide), if_neg (by decide), if_pos rfl, vNumName, bnd1_mk]
    by_cases hlt : nameN [10, h, l] < nm.length
    · rw [if_pos (by omega), need_pos (by omega), if_pos hlt]
    · rw [if_neg (by omega), bnd1_mk, vItoa (by omega) (by omega), bnd1_mk, need_pos (by simp; omega), if_neg hlt]
  | comp k c h l ps hc hn hp hf ih =>
    intro hk hl n hkn
    obtain ⟨n, rfl⟩ : ∃ q, n = q + 1 := ⟨n - 1, by omega⟩
    obtain ⟨n1, n2, n3⟩ := kind_ne hc
    have hsh : ∀ p ∈ ps, Sh k p := fun p h => (hp p h).sh
    simp only [List.length_cons] at hl
    have hpl : ps.length ≤ 65536 := by have := h.toNat_lt; have := l.toNat_lt; omega
    have hsum := sum_txt hnm hsh
    have hsum2 : sumL (ps.map (txt nm k)) 4 ≤ 137445244928 := by
      have : ps.flatten.length * 1048596 ≤ 131072 * 1048596 := Nat.mul_le_mul_right _ (by omega)
      omega
    have hmem : ∀ p ∈ ps, p.length ≤ 131072 := fun p hp' => by have := flat_mem_len hp'; omega
    have hj : (Lib.join (ps.map (txt nm k)) [44, 32]).length ≤ sumL (ps.map (txt nm k)) 2 := join_len (ps.map (txt nm k)) [44, 32]
    have hj2 := sumL_mono (ps.map (txt nm k)) (show 2 ≤ 4 by omega)
    have hpr := prs_len (ps.map (txt nm k))
    have hjp : (Lib.join (prsT (ps.map (txt nm k))) [44, 32]).length ≤ sumL (prsT (ps.map (txt nm k))) 2 := join_len (prsT (ps.map (txt nm k))) [44, 32]
    rw [txt_comp hc hn hsh, m_value_text_S, m_value_text_F, need_pos (by simp; omega), gi_0, if_neg n1, if_neg n2, if_neg n3, jn_eq, vParts hsh (by omega) (by omega), bnd1_mk, show (0 : Int) = ((0 : Nat) : Int) from rfl,
      vTextL (by omega) (f := txt nm k) (fun p hp' => ih p hp' (by omega) (hmem p hp') n (by omega)) _ ps 0 FU [] rfl (by omega) (by have := FU_ge; omega) (by simp), List.nil_append, vJoinT (by simp; omega) (by omega) (by simp), bnd1_mk, show ((0 : Nat) : Int) = 0 from rfl, need_pos (by simp; omega)]
    unfold wrapT
    by_cases c4 : c = 4
    · rw [if_pos c4, if_pos c4, need_pos (by simp; omega), need_pos (by simp; omega)]
    · by_cases c5 : c = 5
      · rw [if_neg c4, if_neg c4, if_pos c5, if_pos c5, need_pos (by simp; omega), need_pos (by simp; omega)]
      · by_cases c6 : c = 6
        · have hev : (ps.map (txt nm k)).length % 2 = 0 := by
            subst c6
            unfold formedB at hf
            rw [if_neg (by decide), if_neg (by decide), if_pos rfl, Bool.and_eq_true] at hf
            rw [List.length_map]; exact of_decide_eq_true hf.1
          rw [if_neg c4, if_neg c4, if_neg c5, if_neg c5, if_pos c6, if_pos c6, vPairsT _ (by simp; omega) (fun x hx => by have := sum_mem (c := 4) hx; omega) hev, bnd1_mk]
          have hpl2 : (prsT (ps.map (txt nm k))).length ≤ 1000000 := by
            have : ∀ q : List (List UInt8), (prsT q).length ≤ q.length := by
              intro q
              fun_induction prsT q with
              | case1 a b q ih => simp only [List.length_cons]; omega
              | case2 => simp
            have := this (ps.map (txt nm k))
            rw [List.length_map] at this
            omega
          have hjj : m_join (prsT (ps.map (txt nm k))) [44, 32] = some (Lib.join (prsT (ps.map (txt nm k))) [44, 32]) := by
            unfold m_join
            rw [need_pos ⟨by omega, by omega⟩]
          rw [hjj, bnd1_mk, need_pos (by simp; omega), need_pos (by simp; omega)]
        · by_cases c7 : c = 7
          · rw [if_neg c4, if_neg c4, if_neg c5, if_neg c5, if_neg c6, if_neg c6, if_pos c7, if_pos c7, vJoinT (by simp; omega) (by omega) (by simp), bnd1_mk]
          · by_cases c8 : c = 8
            · rw [if_neg c4, if_neg c4, if_neg c5, if_neg c5, if_neg c6, if_neg c6, if_neg c7, if_neg c7, if_pos c8, if_pos c8, need_pos (by simp; omega), need_pos (by simp; omega)]
            · by_cases c9 : c = 9
              · rw [if_neg c4, if_neg c4, if_neg c5, if_neg c5, if_neg c6, if_neg c6, if_neg c7, if_neg c7, if_neg c8, if_neg c8, if_pos c9, if_pos c9, need_pos (by simp; omega), need_pos (by simp; omega)]
              · rw [if_neg c4, if_neg c4, if_neg c5, if_neg c5, if_neg c6, if_neg c6, if_neg c7, if_neg c7, if_neg c8, if_neg c8, if_neg c9, if_neg c9, need_pos (by simp; omega), need_pos (by simp; omega)]
end Go.Proofs.YtdppkpiagdaigaaGreatDoor
/- Texts of values: the reference writes the same; the law. -/
namespace Go.Proofs.YtdppkpiagdaigaaGreatDoor
attribute [local irreducible] FU
theorem joinTail_cons (sep x : List UInt8) (r : List (List UInt8)) : Lib.joinTail sep (x :: r) = sep ++ x ++ Lib.joinTail sep r := by simp [Lib.joinTail]
section
variable {self : List UInt8 → List (List UInt8) → Option (List UInt8)} {nm : List (List UInt8)} {f : List UInt8 → List UInt8}
theorem rJ {l : List (List UInt8)} (hl : l.length ≤ 1000000) (hf : ∀ p ∈ l, self p nm = some (f p)) {sep : List UInt8} (h4 : sep.length ≤ 4) (K : List UInt8 → Option (List UInt8)) : ∀ (u : List (List UInt8)) (j n : Nat) (acc : List UInt8), l.drop j = u → j + u.length = l.length → 0 < j → u.length < n → acc.length + sumL (u.map f) 4 ≤ 1000000000000000 → m_ref9_joined_L2 self l nm sep K n acc (j : Int) = K (acc ++ Lib.joinTail sep (u.map f))
  | [], j, n, acc, hd, hj, h0, hn, _ => by
    obtain ⟨n, rfl⟩ : ∃ q, n = q + 1 := ⟨n - 1, by omega⟩
    simp only [List.length_nil] at hj
    rw [m_ref9_joined_L2, m_ref9_joined_B2, if_neg (by omega)]; simp [Lib.joinTail]
  | x :: u, j, n, acc, hd, hj, h0, hn, hs => by
    obtain ⟨n, rfl⟩ : ∃ q, n = q + 1 := ⟨n - 1, by omega⟩
    simp only [List.length_cons] at hj hn
    rw [List.map_cons, sumL_cons] at hs
    have hja : j < l.length := by omega
    have h1 : l[j] = x ∧ l.drop (j + 1) = u := by rw [List.drop_eq_getElem_cons hja] at hd; exact ⟨(List.cons.inj hd).1, (List.cons.inj hd).2⟩
    have e1 : i64 ((j : Int) + 1) = ((j + 1 : Nat) : Int) := by rw [i64_id (by omega)]; omega
    rw [m_ref9_joined_L2, m_ref9_joined_B2, if_pos (by omega), jn_eq, if_pos (by omega), need_pos (by omega)]
    dsimp only
    rw [need_pos (by omega), gi_nat hja, h1.1, hf x (by rw [← h1.1]; exact List.getElem_mem hja), bnd1_mk, need_pos (by simp; omega), e1, rJ hl hf h4 K u (j + 1) n _ h1.2 (by omega) (by omega) (by omega) (by simp; omega), List.map_cons, joinTail_cons]
    simp only [List.append_assoc]
theorem rJoined {l : List (List UInt8)} (hl : l.length ≤ 1000000) (hf : ∀ p ∈ l, self p nm = some (f p)) {sep : List UInt8} (h4 : sep.length ≤ 4) (hs : sumL (l.map f) 4 ≤ 1000000000000000) : m_ref9_joined self l nm sep = some (Lib.join (l.map f) sep) := by
  unfold m_ref9_joined
  rw [jn_eq]
  obtain ⟨n, hn⟩ := FU_k 1 (by omega)
  match l, hl, hf, hs with
  | [], _, _, _ => rw [hn, m_ref9_joined_L2, m_ref9_joined_B2, if_neg (by simp)]; simp [Lib.join_nil]
  | x :: u, hl, hf, hs =>
    rw [List.map_cons, sumL_cons] at hs
    simp only [List.length_cons] at hl
    have hFU := FU_ge
    have e1 : i64 ((0 : Int) + 1) = ((1 : Nat) : Int) := by rw [i64_id (by omega)]; omega
    rw [hn, m_ref9_joined_L2, m_ref9_joined_B2, if_pos (by rw [List.length_cons]; omega), jn_eq, if_neg (by omega)]
    dsimp only
    rw [need_pos (by rw [List.length_cons]; omega), show gi (x :: u) 0 = x from rfl, hf x List.mem_cons_self, bnd1_mk, need_pos (by simp; omega), e1, List.nil_append,
      rJ (l := x :: u) (by simp; omega) hf h4 _ u 1 n _ rfl (by simp; omega) (by omega) (by omega) (by omega), List.map_cons, Lib.join_cons]
theorem rMapL {l : List (List UInt8)} (hl : l.length ≤ 1000000) (hf : ∀ p ∈ l, self p nm = some (f p)) (K : List UInt8 → Option (List UInt8)) : ∀ (m : Nat) (u : List (List UInt8)) (j n : Nat) (acc : List UInt8), u.length = 2 * m → l.drop j = u → j + u.length = l.length → m < n → acc.length + sumL (u.map f) 4 ≤ 100000000000000 →
    m_ref9_Text_L4 self nm l K n acc (j : Int) = K (acc ++ (if j = 0 then Lib.join (prsT (u.map f)) [44, 32] else Lib.joinTail [44, 32] (prsT (u.map f))))
  | 0, u, j, n, acc, hu, hd, hj, hn, _ => by
    obtain ⟨n, rfl⟩ : ∃ q, n = q + 1 := ⟨n - 1, by omega⟩
    obtain rfl := List.eq_nil_of_length_eq_zero (show u.length = 0 by omega)
    simp only [List.length_nil] at hj
    have e : prsT (([] : List (List UInt8)).map f) = [] := rfl
    rw [m_ref9_Text_L4, m_ref9_Text_B4, if_neg (by omega), e, Lib.join_nil, show Lib.joinTail [44, 32] [] = [] from rfl]
    simp
  | m + 1, u, j, n, acc, hu, hd, hj, hn, hs => by
    obtain ⟨n, rfl⟩ : ∃ q, n = q + 1 := ⟨n - 1, by omega⟩
    match u, hu with
    | a :: b :: u, hu =>
      simp only [List.length_cons] at hu hj
      rw [List.map_cons, List.map_cons, sumL_cons, sumL_cons] at hs
      have hja : j < l.length := by omega
      have hjb : j + 1 < l.length := by omega
      have h1 : l[j] = a ∧ l.drop (j + 1) = b :: u := by rw [List.drop_eq_getElem_cons hja] at hd; exact ⟨(List.cons.inj hd).1, (List.cons.inj hd).2⟩
      have h2 : l[j + 1] = b ∧ l.drop (j + 2) = u := by have h := h1.2; rw [List.drop_eq_getElem_cons hjb] at h; exact ⟨(List.cons.inj h).1, (List.cons.inj h).2⟩
      have e2 : i64 ((j : Int) + 2) = ((j + 2 : Nat) : Int) := by rw [i64_id (by omega)]; omega
      have ht : List.take (Int.toNat ((j + 2 : Nat) : Int) - Int.toNat (j : Int)) (List.drop (Int.toNat (j : Int)) l) = [a, b] := by
        rw [Int.toNat_natCast, Int.toNat_natCast, hd, show j + 2 - j = 2 by omega]; rfl
      have hjn : m_ref9_joined self [a, b] nm [32, 61, 62, 32] = some (f a ++ [32, 61, 62, 32] ++ f b) := by
        rw [rJoined (f := f) (by simp) (fun p hp => by
          simp at hp
          rcases hp with rfl | rfl
          · exact hf _ (by rw [← h1.1]; exact List.getElem_mem hja)
          · exact hf _ (by rw [← h2.1]; exact List.getElem_mem hjb)) (by simp) (by simp [sumL]; omega), List.map_cons, Lib.join_cons, List.map_cons, List.map_nil, joinTail_cons]
        simp [Lib.joinTail]
      have hp : prsT ((a :: b :: u).map f) = (f a ++ [32, 61, 62, 32] ++ f b) :: prsT (u.map f) := rfl
      have ih := rMapL hl hf K m u (j + 2) n
      rw [m_ref9_Text_L4, m_ref9_Text_B4, if_pos (by omega), jn_eq, e2, ht, hp]
      by_cases h0 : j = 0
      · subst h0
        rw [if_neg (by omega)]
        dsimp only
        rw [need_pos (by omega), hjn, bnd1_mk, need_pos (by simp; omega), ih _ (by omega) h2.2 (by omega) (by omega) (by simp; omega), if_neg (by omega), if_pos rfl, Lib.join_cons, List.append_assoc]
      · rw [if_pos (by omega), need_pos (by simp; omega)]
        dsimp only
        rw [need_pos (by omega), hjn, bnd1_mk, need_pos (by simp; omega), ih _ (by omega) h2.2 (by omega) (by omega) (by simp; omega), if_neg (by omega), if_neg h0, joinTail_cons]
        simp only [List.append_assoc]
end
theorem toNat4 (c : UInt8) : ((c.toNat : Int) = 4) ↔ c = 4 := toNat_eq_iff c 4
theorem rText {nm : List (List UInt8)} (hnm : NmOk nm) {k : Nat} {v : List UInt8} (h : IsV k v) : k ≤ 32 → v.length ≤ 131072 → ∀ n, k ≤ n → m_ref9_Text_S n v nm = some (txt nm k v) := by
  induction h with
  | int k b hb =>
    intro hk hl n hn
    obtain ⟨n, rfl⟩ : ∃ q, n = q + 1 := ⟨n - 1, by omega⟩
    have hV : vldB (1 :: b) = true := vldB_iff.2 ⟨(IsV.int k b hb).le (by omega), hl⟩
    have hkd : kindW (1 :: b) = 1 := by unfold kindW; rw [if_pos hV]; rfl
    have hN : m_ref9_Number (1 :: b) = some (i64 (beNat (((1 :: b).drop 1).take 8))) := by
      unfold m_ref9_Number
      rw [rKind, hkd, bnd1_mk, if_pos rfl, need_pos (by simp; omega), show List.drop (Int.toNat 1) (1 :: b) = (1 :: b).drop 1 from rfl, rNumber _ (by simp; omega), bnd1_mk]
    rw [m_ref9_Text_S, m_ref9_Text_F, rPartsW, bnd1_mk, jn_eq, rKind, bnd1_mk, hkd, if_pos rfl, hN, bnd1_mk, rDecimal (i64_rngT _).1 (i64_rngT _).2, bnd1_mk, txt, gi_0, if_pos rfl]
  | bool k b hb =>
    intro hk hl n hn
    obtain ⟨n, rfl⟩ : ∃ q, n = q + 1 := ⟨n - 1, by omega⟩
    have hV : vldB [2, b] = true := vldB_iff.2 ⟨(IsV.bool k b hb).le (by omega), hl⟩
    have hkd : kindW [2, b] = 2 := by unfold kindW; rw [if_pos hV]; rfl
    have hN : m_ref9_Number [2, b] = some (b.toNat : Int) := by
      unfold m_ref9_Number
      rw [rKind, hkd, bnd1_mk, if_neg (by omega), if_pos rfl, need_pos (by simp), gi_1]
    have ht : txt nm (k + 1) [2, b] = if b = 1 then [116, 114, 117, 101] else [102, 97, 108, 115, 101] := by rw [txt, gi_0, if_neg (by decide), if_pos rfl, gi_1]
    have hb2 : b = 0 ∨ b = 1 := by
      rcases (show b.toNat = 0 ∨ b.toNat = 1 by omega) with h | h
      · exact .inl (UInt8.toNat_inj.1 h)
      · exact .inr (UInt8.toNat_inj.1 h)
    rw [ht, m_ref9_Text_S, m_ref9_Text_F, rPartsW, bnd1_mk, jn_eq, rKind, bnd1_mk, hkd, if_neg (by omega), if_pos rfl, hN, bnd1_mk]
    rcases hb2 with rfl | rfl
    · rw [need_pos (by decide)]; rfl
    · rw [need_pos (by decide)]; rfl
  | name k h l =>
    intro hk hl n hn
    obtain ⟨n, rfl⟩ : ∃ q, n = q + 1 := ⟨n - 1, by omega⟩
    have hb1 := h.toNat_lt
    have hb2 := l.toNat_lt
    have hNb : nameN [10, h, l] ≤ 65535 := by unfold nameN; rw [gi_1, gi_2]; omega
    have hi := itoa_len (n := (nameN [10, h, l] : Int)) (by omega) (by omega)
    have hV : vldB [10, h, l] = true := vldB_iff.2 ⟨(IsV.name k h l).le (by omega), hl⟩
    have hkd : kindW [10, h, l] = 10 := by unfold kindW; rw [if_pos hV]; rfl
    have hN : m_ref9_Number [10, h, l] = some (nameN [10, h, l] : Int) := by
      unfold m_ref9_Number
      rw [rKind, hkd, bnd1_mk, if_neg (by omega), if_neg (by omega), if_pos rfl, need_pos (by simp), need_pos (by simp), gi_1, gi_2, i64_step]
      rfl
    have ht : txt nm (k + 1) [10, h, l] = if nameN [10, h, l] < nm.length then gi nm (nameN [10, h, l] : Int) else [63] ++ Lib.itoa (nameN [10, h, l] : Int) := by rw [txt, gi_0, if_neg (by decide), if_neg (by decide), if_pos rfl]
    rw [ht, m_ref9_Text_S, m_ref9_Text_F, rPartsW, bnd1_mk, jn_eq, rKind, bnd1_mk, hkd, if_neg (by omega), if_neg (by omega), if_pos rfl, hN, bnd1_mk]
    by_cases hlt : nameN [10, h, l] < nm.length
    · rw [if_pos (by omega), need_pos (by omega), if_pos hlt]
    · rw [if_neg (by omega), bnd1_mk, rDecimal (by omega) (by omega), bnd1_mk, need_pos (by simp; omega), if_neg hlt]
  | comp k c h l ps hc hn hp hf ih =>
    intro hk hl n hkn
    obtain ⟨n, rfl⟩ : ∃ q, n = q + 1 := ⟨n - 1, by omega⟩
    obtain ⟨n1, n2, n3⟩ := kind_ne hc
    have hsh : ∀ p ∈ ps, Sh k p := fun p h => (hp p h).sh
    have hV : vldB (c :: h :: l :: ps.flatten) = true := vldB_iff.2 ⟨(IsV.comp k c h l ps hc hn hp hf).le (by omega), hl⟩
    simp only [List.length_cons] at hl
    have hkd : kindW (c :: h :: l :: ps.flatten) = (c.toNat : Int) := by unfold kindW; rw [if_pos hV]; rfl
    have hpr : prtW (c :: h :: l :: ps.flatten) = ps := by unfold prtW; rw [if_pos hV, prt_comp hc hn hsh (by omega)]
    have hpl : ps.length ≤ 65536 := by have := h.toNat_lt; have := l.toNat_lt; omega
    have hsum := sum_txt hnm hsh
    have hsum2 : sumL (ps.map (txt nm k)) 4 ≤ 137445244928 := by
      have : ps.flatten.length * 1048596 ≤ 131072 * 1048596 := Nat.mul_le_mul_right _ (by omega)
      omega
    have hmem : ∀ p ∈ ps, p.length ≤ 131072 := fun p hp' => by have := flat_mem_len hp'; omega
    have hself : ∀ p ∈ ps, m_ref9_Text_S n p nm = some (txt nm k p) := fun p hp' => ih p hp' (by omega) (hmem p hp') n (by omega)
    have hj : (Lib.join (ps.map (txt nm k)) [44, 32]).length ≤ sumL (ps.map (txt nm k)) 2 := join_len (ps.map (txt nm k)) [44, 32]
    have hj2 := sumL_mono (ps.map (txt nm k)) (show 2 ≤ 4 by omega)
    have hpr4 := prs_len (ps.map (txt nm k))
    have hjp : (Lib.join (prsT (ps.map (txt nm k))) [44, 32]).length ≤ sumL (prsT (ps.map (txt nm k))) 2 := join_len (prsT (ps.map (txt nm k))) [44, 32]
    have hJ := rJoined (self := m_ref9_Text_S n) (nm := nm) (l := ps) (f := txt nm k) (by omega) hself (sep := [44, 32]) (by simp) (by omega)
    have hJ7 := rJoined (self := m_ref9_Text_S n) (nm := nm) (l := ps) (f := txt nm k) (by omega) hself (sep := [46]) (by simp) (by omega)
    rw [txt_comp hc hn hsh, m_ref9_Text_S, m_ref9_Text_F, rPartsW, hpr, bnd1_mk, jn_eq, rKind, hkd, bnd1_mk, if_neg (fun h => n1 ((toNat1 c).1 h)), if_neg (fun h => n2 ((toNat2 c).1 h)), if_neg (fun h => n3 ((toNat10 c).1 h))]
    unfold wrapT
    by_cases c3 : c = 3
    · subst c3
      rw [if_pos (by decide), hJ, bnd1_mk, need_pos (by simp; omega), need_pos (by simp; omega), if_neg (by decide), if_neg (by decide), if_neg (by decide), if_neg (by decide), if_neg (by decide), if_neg (by decide)]
    · rw [if_neg (fun h => c3 ((toNat3 c).1 h))]
      by_cases c4 : c = 4
      · rw [if_pos ((toNat4 c).2 c4), if_pos c4, hJ, bnd1_mk, need_pos (by simp; omega), need_pos (by simp; omega)]
      · rw [if_neg (fun h => c4 ((toNat4 c).1 h)), if_neg c4]
        by_cases c5 : c = 5
        · rw [if_pos ((toNat5 c).2 c5), if_pos c5, hJ, bnd1_mk, need_pos (by simp; omega), need_pos (by simp; omega)]
        · rw [if_neg (fun h => c5 ((toNat5 c).1 h)), if_neg c5]
          by_cases c6 : c = 6
          · have hev : ps.length % 2 = 0 := by
              subst c6
              unfold formedB at hf
              rw [if_neg (by decide), if_neg (by decide), if_pos rfl, Bool.and_eq_true] at hf
              exact of_decide_eq_true hf.1
            rw [if_pos ((toNat6 c).2 c6), if_pos c6, jn_eq, show (0 : Int) = ((0 : Nat) : Int) from rfl, rMapL (by omega) hself _ (ps.length / 2) ps 0 FU [] (by omega) rfl (by omega) (by have := FU_ge; omega) (by simp; omega), if_pos rfl, List.nil_append, need_pos (by simp; omega), need_pos (by simp; omega)]
          · rw [if_neg (fun h => c6 ((toNat6 c).1 h)), if_neg c6]
            by_cases c7 : c = 7
            · rw [if_pos ((toNat7 c).2 c7), if_pos c7, hJ7, bnd1_mk]
            · rw [if_neg (fun h => c7 ((toNat7 c).1 h)), if_neg c7]
              by_cases c8 : c = 8
              · rw [if_pos ((toNat8 c).2 c8), if_pos c8, hJ, bnd1_mk, need_pos (by simp; omega), need_pos (by simp; omega)]
              · rw [if_neg (fun h => c8 ((toNat8 c).1 h)), if_neg c8]
                have d3 : c.toNat ≠ 3 := fun h => c3 (UInt8.toNat_inj.1 (by rw [h]; rfl))
                have d4 : c.toNat ≠ 4 := fun h => c4 (UInt8.toNat_inj.1 (by rw [h]; rfl))
                have d5 : c.toNat ≠ 5 := fun h => c5 (UInt8.toNat_inj.1 (by rw [h]; rfl))
                have d6 : c.toNat ≠ 6 := fun h => c6 (UInt8.toNat_inj.1 (by rw [h]; rfl))
                have d7 : c.toNat ≠ 7 := fun h => c7 (UInt8.toNat_inj.1 (by rw [h]; rfl))
                have d8 : c.toNat ≠ 8 := fun h => c8 (UInt8.toNat_inj.1 (by rw [h]; rfl))
                have c9 : c = 9 := UInt8.toNat_inj.1 (by rw [show (9 : UInt8).toNat = 9 from rfl]; omega)
                rw [if_pos ((toNat9 c).2 c9), if_pos c9, hJ, bnd1_mk, need_pos (by simp; omega), need_pos (by simp; omega)]
theorem vTextW {nm : List (List UInt8)} (hnm : NmOk nm) (v : List UInt8) : m_value_Text v nm = some (if vldB v = true then txt nm 32 v else []) ∧ m_ref9_Text v nm = some (if vldB v = true then txt nm 32 v else []) := by
  have hFU := FU_ge
  cases h : vldB v with
  | true =>
    obtain ⟨h1, h2⟩ := vldB_iff.1 h
    refine ⟨?_, ?_⟩
    · unfold m_value_Text m_value_text
      rw [vValid, h, bnd1_mk, if_neg (by simp), vText hnm h1 (by omega) h2 FU (by omega), bnd1_mk, if_pos rfl]
    · unfold m_ref9_Text
      rw [rText hnm h1 (by omega) h2 FU (by omega), if_pos rfl]
  | false =>
    refine ⟨?_, ?_⟩
    · unfold m_value_Text
      rw [vValid, h, bnd1_mk, Bool.not_false, if_pos rfl]; rfl
    · obtain ⟨n, hn⟩ := FU_k 1 (by omega)
      have hk : kindW v = 0 := by unfold kindW; rw [h]; rfl
      unfold m_ref9_Text
      rw [hn, m_ref9_Text_S, m_ref9_Text_F, rPartsW, bnd1_mk, jn_eq, rKind, hk, bnd1_mk, if_neg (by omega), if_neg (by omega), if_neg (by omega), if_neg (by omega), if_neg (by omega), if_neg (by omega), if_neg (by omega), if_neg (by omega), if_neg (by omega), if_neg (by omega)]
      rfl
theorem itoa12 : Lib.itoa 1 = [49] ∧ Lib.itoa 2 = [50] := by
  constructor <;> (unfold Lib.itoa; rw [if_neg (by omega), Lib.decDigits, dif_pos (by decide)]; rfl)
theorem nmNil : NmOk [] := fun x h => by cases h
theorem awake9T : m_law9_awake = some true := by
  obtain ⟨s1, s2, s3, s4⟩ := set12
  unfold m_law9_awake
  have hk : kindW (setW [intW 2, intW 1, intW 2]) = 5 := of_decide_eq_true s3
  have ht : ∀ i : Int, i = 1 ∨ i = 2 → txt [] 31 (intW i) = if i = 1 then [49] else [50] := fun i hi => by
    have e : i64 (beNat (((intW i).drop 1).take 8)) = i := by
      rw [List.take_of_length_le (by rw [List.length_drop, intW_len]; omega)]; exact numV_intW (by omega)
    rw [txt, if_pos (show gi (intW i) 0 = 1 from rfl), e]
    rcases hi with rfl | rfl
    · rw [itoa12.1]; rfl
    · rw [itoa12.2]; rfl
  have hT : m_value_Text (setW [intW 2, intW 1, intW 2]) [] = some [123, 49, 44, 32, 50, 125] := by
    rw [(vTextW nmNil _).1, if_pos s4, s1]
    have hr : raw 5 [intW 1, intW 2] = 5 :: 0 :: 2 :: [intW 1, intW 2].flatten := rfl
    rw [hr, txt_comp (k := 31) (by decide) rfl (fun p hp => by
      simp at hp
      rcases hp with rfl | rfl
      · exact (intW_IsV 1 0).sh.le (by omega)
      · exact (intW_IsV 2 0).sh.le (by omega)), List.map_cons, List.map_cons, List.map_nil, ht 1 (.inl rfl), ht 2 (.inr rfl)]
    rfl
  simp only [vInt, bnd1_mk, vSet [intW 2, intW 1, intW 2] (by simp) (fun x hx => by
    simp at hx
    rcases hx with rfl | rfl | rfl <;> rw [intW_len] <;> omega), jn_eq, vKind, hk, vPartsW, s2, hT, vCompareW]
  rw [if_pos (show intW 1 = [1, 0, 0, 0, 0, 0, 0, 0, 1] from rfl), if_pos trivial, if_pos (by simp), if_pos trivial, cmpC_int (by omega) (by omega)]
  rfl
theorem gs_newT {c : List Int} (hc : c.length ≤ maxLen ∧ ∀ x ∈ c, (Lit.int .i64 x).wf = true) : GS c 0 := ⟨by omega, by omega, by have := hc.1; unfold maxLen at this; omega⟩
theorem valueTexts_true (v : List UInt8) (c : List Int) (nm : List (List UInt8)) (_ : v.length ≤ maxLen) (hc : c.length ≤ maxLen ∧ ∀ x ∈ c, (Lit.int .i64 x).wf = true) (_ : nm.length ≤ maxLen ∧ ∀ x ∈ nm, x.length ≤ maxLen)
    (hsz : v.length + 1 + (szL (fun _ : Int => 1) c + 1) + (szL (fun x : List UInt8 => x.length + 1) nm + 1) ≤ 1048576) : m_law9_ValueTexts v c nm = some true := by
  have hnm : NmOk nm := fun x hx => by have := szL_mem (sz := fun x : List UInt8 => x.length + 1) hx; omega
  have hab : NmOk [[97], [98]] := fun x hx => by
    simp at hx
    rcases hx with rfl | rfl <;> simp
  obtain ⟨w, i1, e1, _⟩ := gValue 4 (by omega) c 0 (gs_newT hc)
  simp only [] at e1
  rw [show ((4 : Nat) : Int) = 4 from rfl] at e1
  unfold m_law9_ValueTexts m_gen_New
  simp only [bnd1_mk, e1, jn_eq, awake9T, (vTextW hnm _).1, (vTextW hnm _).2, (vTextW hab _).1, (vTextW hab _).2, if_true, decide_true]
end Go.Proofs.YtdppkpiagdaigaaGreatDoor
/- ValueTexts: for every input the call returns true, and the arguments read as before. Condition: what the arguments hold is of bulk at most 1048576, as the given statement has it. -/
namespace Go.Proofs.YtdppkpiagdaigaaGreatDoor
open Go.ChangeShapes Go.WideShapes Go.ChangeAt Go.RowKit

theorem o_api_Value : Opens Tryz.prog 23 1 (fun x : List UInt8 => [.exact (.string (bs x))]) (fun x => x.length + 1) (fun x => x.length ≤ maxLen) := fun e0 W fuel cs y h => (opens_str Tryz.underlying23) e0 W fuel cs y h
theorem o_int : Opens Tryz.prog 3 1 (fun x : Int => [.exact (.int .i64 x)]) (fun _ => 1) (fun x => (Lit.int .i64 x).wf = true) := fun e0 W fuel cs y h => (opens_int Tryz.underlying3) e0 W fuel cs y h
theorem o_L_int : Opens Tryz.prog 22 1 (fun xs : List Int => [.row 1 c_int xs]) (fun xs => szL (fun _ => 1) xs + 1) (fun xs => xs.length ≤ maxLen ∧ ∀ x ∈ xs, (fun x => (Lit.int .i64 x).wf = true) x) := fun e0 W fuel cs y h => (opens_slice Tryz.underlying22 (by kernel_rfl) (by decide) o_int) e0 W fuel cs y h
theorem o_string : Opens Tryz.prog 9 1 (fun x : List UInt8 => [.exact (.string (bs x))]) (fun x => x.length + 1) (fun x => x.length ≤ maxLen) := fun e0 W fuel cs y h => (opens_str Tryz.underlying9) e0 W fuel cs y h
theorem o_L_string : Opens Tryz.prog 31 1 (fun xs : List (List UInt8) => [.row 1 c_string xs]) (fun xs => szL (fun x => x.length + 1) xs + 1) (fun xs => xs.length ≤ maxLen ∧ ∀ x ∈ xs, (fun x => x.length ≤ maxLen) x) := fun e0 W fuel cs y h => (opens_slice Tryz.underlying31 (by kernel_rfl) (by decide) o_string) e0 W fuel cs y h
theorem door_met (os : Os) (args : Array Value) : laidMetH Tryz.prog Rows.valueTextsUptoRow.laid ((World.doorLaid Tryz.prog 400 os).forCall (fun _ _ => 0) ⟨#[], args, []⟩).memory :=
  laidMetH_of_parts3 (fuel := 8) (laidMet_of_run' 8 (by kernel_rfl) (by kernel_rfl)) (by kernel_rfl) (by kernel_rfl)
theorem witness_row (os : Os) {H : Type} (enc : TypeId × Value → H) :
    (Rows.OpenSpec.upto Rows.valueTextsSpec).preRow enc Tryz.prog Tryz.f4 Rows.valueTextsUptoRow.domain false Rows.valueTextsUptoRow.laid ((World.doorLaid Tryz.prog 400 os).forCall (fun _ _ => 0) ⟨#[], #[.string ⟨#[]⟩, .slice none 0 0, .slice none 0 0], []⟩).memory #[.string ⟨#[]⟩, .slice none 0 0, .slice none 0 0] := by
  have hw : (DataW.whole enc Tryz.prog ((World.doorLaid Tryz.prog 400 os).forCall (fun _ _ => 0) ⟨#[], #[.string ⟨#[]⟩, .slice none 0 0, .slice none 0 0], []⟩).memory Tryz.f4.params.toList (Rows.OpenSpec.upto Rows.valueTextsSpec).vars false #[.string ⟨#[]⟩, .slice none 0 0, .slice none 0 0].toList 8).map (fun x => (x.1, x.2.1)) =
      some ([.lit (.string []), .nil, .nil], []) := by kernel_rfl
  obtain ⟨⟨x1, x2, x3⟩, hx, hx1⟩ := Option.map_eq_some_iff.1 hw
  simp only [Prod.mk.injEq] at hx1
  obtain ⟨rfl, rfl⟩ := hx1
  exact OpenSpec.preRow_of_cond 8 hx (by kernel_rfl) (fun k hk => by cases hk; kernel_rfl) (by kernel_rfl) (door_met os _)
set_option maxRecDepth 100000 in
theorem valueTexts_lifted (os : Os) (started : os.Started) (H : Type) (enc : TypeId × Value → H) (F : Stop.Interp) :
    ReturnsInHanded {} Tryz.checked os 4 .any ((Rows.OpenSpec.upto Rows.valueTextsSpec).preRow enc Tryz.prog Tryz.f4 Rows.valueTextsUptoRow.domain false Rows.valueTextsUptoRow.laid) (((Rows.OpenSpec.upto Rows.valueTextsSpec).at F).post enc Tryz.prog Tryz.f4 false true false false) := by
  refine returnsInHanded_of_row (C := Tryz.checked) (s := (Rows.OpenSpec.upto Rows.valueTextsSpec)) Tryz.own started (by kernel_rfl) Tryz.func4
    (witness_row_atRef (enc := enc) (C := Tryz.checked) false (World.doorLaid Tryz.prog 400 os) #[.string ⟨#[]⟩, .slice none 0 0, .slice none 0 0] rfl (by kernel_rfl) (by kernel_rfl) (by kernel_rfl) (witness_row os enc)) ?_
  intro W base args ds gs before hval0 hW _ hk0 _ hL _ _
  have hk := hk0 _ rfl
  have hval : ∀ (j : Nat) t v, Tryz.f4.params[j]? = some t → args[j]? = some v → Value.okWide Tryz.prog W .any base t v := hval0
  have hW' := hW
  obtain ⟨p, q, hA0, hV, rfl, hfz, hnd⟩ := hW
  have hA : DataW.TrodAll enc Tryz.prog W 0 (fun _ => true) true Tryz.f4.params.toList args.toList ds p := hA0
  rw [Tryz.params4] at hA hval
  obtain ⟨v0, vs0, d0, ds0, p0, q0, hargs, rfl, rfl, h0, r0⟩ := trodAll_cons hA
  obtain ⟨v1, vs1, d1, ds1, p1, q1, rfl, rfl, rfl, h1, r1⟩ := trodAll_cons r0
  obtain ⟨v2, vs2, d2, ds2, p2, q2, rfl, rfl, rfl, h2, r2⟩ := trodAll_cons r1
  obtain ⟨rfl, rfl, rfl⟩ := trodAll_nil r2
  obtain rfl : args = #[v0, v1, v2] := by cases args; simp_all
  obtain ⟨rfl, rfl⟩ := trodVars_none hV
  clear hA0
  simp only [List.append_nil] at hW'
  have hlt := hW'.lt
  obtain ⟨x0, qq0, g0, s0⟩ := arg_open o_api_Value (plain_str Tryz.underlying23 (hval 0 23 v0 rfl rfl)) h0
  obtain ⟨x1, qq1, g1, s1⟩ := arg_open o_L_int (plain_slice Tryz.underlying22 (hval 1 22 v1 rfl rfl)) h1
  obtain ⟨x2, qq2, g2, s2⟩ := arg_open o_L_string (plain_slice Tryz.underlying31 (hval 2 31 v2 rfl rfl)) h2
  have hsz : (fun x => x.length + 1) x0 + (fun xs => szL (fun _ => 1) xs + 1) x1 + (fun xs => szL (fun x => x.length + 1) xs + 1) x2 ≤ 1048576 := by
    have hk' := of_decide_eq_true hk
    simp only [List.append_nil, Rows.uptoBulkAll] at hk'
    try simp only [] at s0 s1 s2
    try simp only []
    omega
  have htab := tab_laid hL (by kernel_rfl)
  refine (Fun.callT (m_law9_ValueTexts_ok x0 x1 x2 true (valueTexts_true x0 x1 x2 qq0 qq1 qq2 hsz)) (vs := [v0, v1, v2]) ⟨g0.1, g1.1, g2.1, trivial⟩ htab.2 htab.1).mono fun e W' ⟨he, hb⟩ => ?_
  subst he
  exact ⟨_, rfl, post_of_below (pa := p0 ++ (p1 ++ (p2 ++ []))) (pv := []) hW' (fun _ _ _ => trodAll_cons_mk (shut_bool Tryz.underlying4 true) trodAll_mk0)
    (fun sp hsp => trodAll_cons_mk (trod_after (by kernel_rfl) (of_decide_eq_true (by kernel_rfl)) h0 hb (fun x hx => hlt x (by simp [hx])) (fun x hx => by simp [hx]) sp hsp) (trodAll_cons_mk (trod_after (by kernel_rfl) (of_decide_eq_true (by kernel_rfl)) h1 hb (fun x hx => hlt x (by simp [hx])) (fun x hx => by simp [hx]) sp hsp) (trodAll_cons_mk (trod_after (by kernel_rfl) (of_decide_eq_true (by kernel_rfl)) h2 hb (fun x hx => hlt x (by simp [hx])) (fun x hx => by simp [hx]) sp hsp) (trodAll_mk0))))
    (fun _ _ => rfl) (by simp) hb (ok_one (by kernel_rfl) rfl (okWide_bool_mk Tryz.underlying4 true))⟩

theorem valueTexts_holds : Rows.ValueTextsUptoSaid :=
  OpenClaim.holds_of_cond 4 Tryz.f4 rfl rfl rfl rfl rfl rfl rfl ⟨rfl, rfl, rfl, rfl, rfl⟩ rfl rfl rfl rfl rfl (by kernel_rfl) Tryz.func4 (by kernel_rfl)
    (of_decide_eq_true (by kernel_rfl)) (by unfold Func.isWrapper; first | (rw [if_pos (by decide +kernel)]; kernel_rfl) | (rw [if_neg (by decide +kernel)]; exact ⟨rfl, rfl⟩))
    (fun os started H enc _ F => by rw [OpenClaim.pre_eq_preRow]; exact valueTexts_lifted os started H enc F)

theorem valueTexts_card_holds : Rows.ValueTextsUptoCardSaid :=
  Claim7.holds_tied_plain_at .later [] [.data, .data, .data] true (true, "b3b43adb5d04f2858f10d6b746ae22995ac7dd36e256823d593a58e5c0256bde") false
    valueTexts_holds (fun _ h => by cases h) (by kernel_rfl) (fun _ h => by cases h) valueTextsUpto_row_tie rfl ⟨rfl, rfl⟩ (by kernel_rfl) rfl
    (fun f fn hf hfn => by
      obtain rfl : f = 4 := Option.some.inj ((show Tryz.prog.funcNamed "cspcheck/cspchecklaw9.ValueTexts" = some 4 by kernel_rfl).symm.trans hf) |>.symm
      obtain rfl : fn = Tryz.f4 := (Option.some.inj (Tryz.func4.symm.trans hfn)).symm
      exact ⟨by kernel_rfl, fun j t ht => by
        rw [Tryz.params4] at ht
        have hm : t ∈ [23, 22, 31] := by simpa using Array.mem_of_getElem? ht
        have hall : ([23, 22, 31].all fun u => !Tryz.prog.wantsStandIn u) = true := by kernel_rfl
        exact (show Tryz.prog.wantsStandIn t = false by simpa using List.all_eq_true.1 hall t hm)⟩)
    (by kernel_rfl)
end Go.Proofs.YtdppkpiagdaigaaGreatDoor
