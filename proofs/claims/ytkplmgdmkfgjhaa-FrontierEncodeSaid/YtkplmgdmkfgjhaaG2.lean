/- Drawn pairs. -/
import Derived.Test.YtkplmgdmkfgjhaaG1
namespace Go.Proofs.Ytkplmgdmkfgjhaa
open Go.RowKit

def cells2 (l : List (Int × Int)) : List Value := l.flatMap fun p => [.int .i64 p.1, .int .i64 p.2]
theorem cells2_app (l m : List (Int × Int)) : cells2 (l ++ m) = cells2 l ++ cells2 m := by simp [cells2]
theorem cells2_len (l : List (Int × Int)) : (cells2 l).length = l.length * 2 := by
  induction l with
  | nil => rfl
  | cons p r ih => simp only [cells2, List.flatMap_cons, List.length_append, List.length_cons, List.length_nil] at *; omega
theorem cells2_get : ∀ (l : List (Int × Int)) (i : Nat) (p : Int × Int), l[i]? = some p → (cells2 l)[i * 2]? = some (.int .i64 p.1) ∧ (cells2 l)[i * 2 + 1]? = some (.int .i64 p.2)
  | [], i, p, h => by simp at h
  | q :: r, 0, p, h => by simp at h; subst h; exact ⟨rfl, rfl⟩
  | q :: r, i + 1, p, h => by
    have := cells2_get r i p (by simpa using h)
    rw [show (i + 1) * 2 = i * 2 + 1 + 1 by omega]
    exact this
theorem cells2_one (l : List (Int × Int)) : ∀ u ∈ cells2 l, u.oneCell' = true := by
  intro u hu
  obtain ⟨p, _, hp⟩ := List.mem_flatMap.1 hu
  simp at hp
  rcases hp with rfl | rfl <;> rfl
/-- A row of pairs of the call's own, as a slice that can be read. -/
theorem own_pairs {w : World} {base n : Nat} {v : Value} {l : List (Int × Int)} (h : w.ownsRow base 29 2 v n (cells2 l)) :
    l.length = n ∧ ∃ A c, v = .slice A l.length c ∧ n ≤ c ∧ PairsAt w w.heap.size A l := by
  have hl : l.length = n := by have := h.1; rw [cells2_len] at this; omega
  obtain ⟨A, c, hv, hc, hr⟩ := own_slice h
  refine ⟨hl, A, c, by rw [hl]; exact hv, hc, fun hne => ?_⟩
  rcases hr with h0 | ⟨g, hA, hg, _, hcell⟩
  · rw [h0] at hl
    exact absurd (List.eq_nil_of_length_eq_zero hl) hne
  · refine ⟨g, 0, hA, hg, fun i p hp => ?_⟩
    obtain ⟨h0, h1⟩ := cells2_get l i p hp
    exact ⟨by simpa using hcell _ _ h0, by simpa using hcell _ _ h1⟩

/-- A row of at most n pairs, drawn off the tape in block g. -/
def RetPairs (g b n : Nat) (w : World) (e : Ending) (w' : World) : Prop :=
  ∃ (l : List (Int × Int)) (v : Value), e = .returned v ∧ l.length ≤ n ∧ w'.ownsRow w.heap.size 29 2 v l.length (cells2 l) ∧ TapeAt w' g b ∧ w.grownBy w' (some g)

theorem two_ints (x y : Int) : ∀ q ∈ (#[Value.int .i64 x, Value.int .i64 y] : Array Value).toList, q.oneCell' = true := by simp [Value.oneCell']

set_option maxRecDepth 100000 in
set_option maxHeartbeats 1000000 in
theorem pairs_any (g b n : Nat) (w : World) (ht : TapeAt w g b) (hb : b ≤ 900000) (hn : n ≤ 1000) :
    Calls Try.prog 13 #[.pointer (some ⟨g, 0, none⟩), .int .i64 n] w (RetPairs g (b + 1 + 4 * n) n w) := by
  have hg0 := ht.lt
  go_enter Try.func13, Try.ntmps13
  go_wp2_with fail
  refine (Next_any g b _ w ht (by omega) (by omega)).mono ?_
  rintro e w1 ⟨v1, rfl, _, hv, ht1, hg1⟩
  obtain ⟨hv0, hv1⟩ := hv (by omega)
  obtain ⟨V, rfl⟩ := Int.eq_ofNat_of_zero_le hv0
  go_wp2_with fail
  go_loopw [5, 6] (fun s i wr => ∃ (k : Nat) (l : List (Int × Int)), l.length + k ≤ n ∧ i = .int .i64 k ∧ TapeAt wr g (b + 1 + 4 * l.length) ∧ wr.ownsRow w.heap.size 29 2 s l.length (cells2 l) ∧ w.grownBy wr (some g)) (fun _ i _ => (intOf i).toNat)
  case atStart => exact ⟨V, [], by simp; omega, rfl, ht1, World.ownsRow_nil _ _ _ _, hg1⟩
  case round =>
    obtain ⟨k, l, hk, rfl, ht2, ho, hg2⟩ := hrel
    have hsz := hg2.size
    by_cases h1 : 0 < k
    · go_wp2_with fail
      refine (Next_any g _ _ _ ht2 (by omega) (by omega)).mono ?_
      rintro e wa ⟨va, rfl, _, hva, hta, hga⟩
      obtain ⟨a0, a1⟩ := hva (by omega)
      clear hva
      go_wp2_with fail
      refine (Next_any g _ _ _ hta (by omega) (by omega)).mono ?_
      rintro e wb ⟨vb, rfl, _, hvb, htb, hgb⟩
      obtain ⟨b0, b1⟩ := hvb (by omega)
      clear hvb
      have m1 : 0 ≤ va * (1 + 200 * vb) := Int.mul_nonneg a0 (by omega)
      have m2 : va * (1 + 200 * vb) ≤ 4 * 401 := Int.mul_le_mul (by omega) (by omega) (by omega) (by omega)
      go_wp2_with fail
      refine (Next_any g _ _ _ htb (by omega) (by omega)).mono ?_
      rintro e wc ⟨vc, rfl, _, hvc, htc, hgc⟩
      obtain ⟨c0, c1⟩ := hvc (by omega)
      clear hvc
      go_wp2_with fail
      refine (Next_any g _ _ _ htc (by omega) (by omega)).mono ?_
      rintro e wd ⟨vd, rfl, _, hvd, htd, hgd⟩
      obtain ⟨d0, d1⟩ := hvd (by omega)
      clear hvd
      have m3 : 0 ≤ vc * (1 + 90 * vd) := Int.mul_nonneg c0 (by omega)
      have m4 : vc * (1 + 90 * vd) ≤ 6 * 300 := Int.mul_le_mul (by omega) (by omega) (by omega) (by omega)
      have hgr := grownBy_trans (grownBy_trans (grownBy_trans hga hgb) hgc) hgd
      have hod : wd.ownsRow w.heap.size 29 2 u5 l.length (cells2 l) := ho.kept hgr (by
        cases hu : u5.ownBlock with
        | none => exact .inl rfl
        | some q => exact .inr (fun e => by injection e with e; have := (ho.lt _ hu).1; omega))
      have hbd : w.heap.size ≤ wd.heap.size := Nat.le_trans hsz hgr.size
      go_wp2_with (at_builtin; refine wpList_app_lit rfl (.tmp 15) (.tmp 31) _ rfl w.heap.size 29 2 16 el_prs u5 _ _ rfl hod _ 1 1 rfl rfl (two_ints _ _) (by omega) (by omega) hbd ?_; intro v' w' ho' hg' hb')
      have hlt : g < w.heap.size := hg0
      have hown2 : ∀ q, u5.ownBlock = some q → w.heap.size ≤ q := fun q hq => (hod.lt _ hq).1
      have htw : TapeAt w' g (b + 1 + 4 * (l.length + 1)) := (htd.mono (by omega)).grown hg' (fun q hq => Nat.lt_of_lt_of_le hlt (hown2 q hq))
      have hgw : w.grownBy w' (some g) := by
        refine ⟨hg'.os.trans (hgr.os.trans hg2.os), hg'.tape.trans (hgr.tape.trans hg2.tape), hg'.output.trans (hgr.output.trans hg2.output), Nat.le_trans hsz (Nat.le_trans hgr.size hg'.size), fun i hi hne => ?_⟩
        refine (hg'.block i (Nat.lt_of_lt_of_le hi hbd) (fun e => by have := hown2 i e.symm; omega)).trans ?_
        exact (hgr.block i (Nat.lt_of_lt_of_le hi hsz) hne).trans (hg2.block i hi hne)
      obtain ⟨j, rfl⟩ : ∃ j, k = j + 1 := ⟨k - 1, by omega⟩
      go_roundw
      case rel => exact ⟨j, l ++ [(va * (1 + 200 * vb), vc * (1 + 90 * vd))], by simp; omega, by go_num, by simpa using htw, by rw [cells2_app, List.length_append]; exact ho', hgw⟩
      case measure => simp [intOf]
    · go_wp2_with fail
      go_ret
      exact ⟨l, u5, rfl, by omega, ho, ht2.mono (by omega), hg2⟩

end Go.Proofs.Ytkplmgdmkfgjhaa
