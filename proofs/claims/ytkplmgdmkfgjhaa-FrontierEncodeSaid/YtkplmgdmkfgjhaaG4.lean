/- The reference's sorting; runs off the tape. -/
import Derived.Test.YtkplmgdmkfgjhaaG3
namespace Go.Proofs.Ytkplmgdmkfgjhaa
open Go.RowKit

def addAll (acc : List (Int × Int)) (l : List (Int × Int)) : List (Int × Int) := l.foldl (fun a x => addL x a) acc
theorem addAll_cons (acc : List (Int × Int)) (x : Int × Int) (l : List (Int × Int)) : addAll acc (x :: l) = addAll (addL x acc) l := rfl
def sortL (l : List (Int × Int)) : List (Int × Int) := if l.all isPairB then addAll [] l else []

set_option maxRecDepth 100000 in
set_option maxHeartbeats 1000000 in
theorem rSorted_any (A : Option Addr) (c : Nat) (l : List (Int × Int)) (w : World) (hl : PairsAt w w.heap.size A l) (hn : l.length ≤ 100000) :
    Calls Try.prog 42 #[.slice A l.length c] w (RetRow 29 2 (sortL l).length (cells2 (sortL l)) w) := by
  go_enter Try.func42, Try.ntmps42
  go_wp2_with fail
  go_loopw [4] (fun i wr => Below w.heap.size w wr ∧ ∃ k : Nat, k ≤ l.length ∧ i = .int .i64 k ∧ l.all isPairB = (l.drop k).all isPairB) (fun i _ => l.length - (intOf i).toNat)
  case atStart => exact ⟨Below.refl _ _, 0, by omega, rfl, rfl⟩
  case round =>
    obtain ⟨hbw, k, hk, rfl, hrel⟩ := hrel
    have HR := Lib.hid hrel
    clear hrel
    have hsz := hbw.size
    by_cases h1 : k < l.length
    · obtain ⟨⟨x0, x1⟩, ex⟩ := getElem?_of_lt l h1
      obtain ⟨b, off, rfl, hB, hc⟩ := hl (ne_nil_of_lt h1)
      obtain ⟨hc0, hc1⟩ := hc k (x0, x1) ex
      replace hc0 := (hbw.cell (p := ⟨b, _, none⟩) hB).trans hc0
      replace hc1 := (hbw.cell (p := ⟨b, _, none⟩) hB).trans hc1
      simp only at hc0 hc1
      have hd := drop_of_get ex
      rw [hd, List.all_cons] at HR
      have HD := Lib.hid hd
      clear ex hd hc
      by_cases hp : isPairB (x0, x1) = true
      · go_wp2_with (go_at_call 76; refine (rIsPair_any _ _ _).mono ?_; rintro e w1 ⟨rfl, hb1⟩)
        go_round
        case rel => exact ⟨hbw.trans (hb1.mono hsz), k + 1, by omega, by go_num, by rw [HR.out, hp]; rfl⟩
        case measure => simp [intOf]; omega
      · have hp' : isPairB (x0, x1) = false := by simpa using hp
        go_wp2_with (go_at_call 76; refine (rIsPair_any _ _ _).mono ?_; rintro e w1 ⟨rfl, hb1⟩)
        go_ret
        refine ⟨.slice none 0 0, rfl, ?_, hbw.trans (hb1.mono hsz)⟩
        rw [sortL, HR.out, hp']
        exact World.ownsRow_nil _ _ _ _
    · have hall : l.all isPairB = true := by rw [HR.out, drop_all h1]; rfl
      have HA := Lib.hid hall
      clear hall
      go_wp2_with fail
      go_loopw [3, 5] (fun v i wq => Below w.heap.size w wq ∧ ∃ (m : Nat) (acc : List (Int × Int)), m ≤ l.length ∧ i = .int .i64 m ∧ acc.length ≤ m ∧ wq.ownsRow w.heap.size 29 2 v acc.length (cells2 acc) ∧ addAll [] l = addAll acc (l.drop m)) (fun _ i _ => l.length - (intOf i).toNat)
      case atStart => exact ⟨hbw, 0, [], by omega, rfl, by simp, World.ownsRow_nil _ _ _ _, rfl⟩
      case round =>
        obtain ⟨hbq, m, acc, hm, rfl, hal, ho, hrel2⟩ := hrel
        have HR2 := Lib.hid hrel2
        clear hrel2
        have hsq := hbq.size
        by_cases h2 : m < l.length
        · obtain ⟨⟨x0, x1⟩, ex⟩ := getElem?_of_lt l h2
          obtain ⟨b, off, rfl, hB, hc⟩ := hl (ne_nil_of_lt h2)
          obtain ⟨hc0, hc1⟩ := hc m (x0, x1) ex
          replace hc0 := (hbq.cell (p := ⟨b, _, none⟩) hB).trans hc0
          replace hc1 := (hbq.cell (p := ⟨b, _, none⟩) hB).trans hc1
          simp only at hc0 hc1
          have hd := drop_of_get ex
          rw [hd, addAll_cons] at HR2
          clear ex hd hc
          have hla := addL_len (x0, x1) acc
          go_wp2_with (go_at_call 78; refine (rAdd_any w.heap.size _ acc x0 x1 _ ho hsq (by omega)).mono ?_; rintro e w1 ⟨v1, rfl, ho1, hb1⟩)
          go_roundw
          case rel => exact ⟨hbq.trans (hb1.mono hsq), m + 1, addL (x0, x1) acc, by omega, by go_num, by omega, ho1, HR2.out⟩
          case measure => simp [intOf]; omega
        · have hd := drop_all h2
          rw [hd] at HR2
          go_wp2_with fail
          go_ret
          refine ⟨_, rfl, ?_, hbq⟩
          rw [sortL, HA.out, if_pos rfl, HR2.out]
          exact ho

set_option maxRecDepth 100000 in
set_option maxHeartbeats 1000000 in
theorem run_any (g b n : Nat) (w : World) (ht : TapeAt w g b) (hb : b ≤ 900000) (hn : n ≤ 1000) :
    Calls Try.prog 12 #[.pointer (some ⟨g, 0, none⟩), .int .i64 n] w (RetPairs g (b + 1 + 4 * n) n w) := by
  go_enter Try.func12, Try.ntmps12
  go_wp2_with fail
  refine (pairs_any g b n w ht hb hn).mono ?_
  rintro e w1 ⟨l, v, rfl, hl, ho, ht1, hg1⟩
  obtain ⟨_, A, c, rfl, _, hp⟩ := own_pairs ho
  go_wp2_with fail
  refine (rSorted_any A c l w1 hp (by omega)).mono ?_
  rintro e w2 ⟨v2, rfl, ho2, hb2⟩
  go_wp2_with fail
  go_ret
  have hlen : (sortL l).length ≤ l.length := by
    unfold sortL
    split
    · have : ∀ (m acc : List (Int × Int)), (addAll acc m).length ≤ acc.length + m.length := by
        intro m
        induction m with
        | nil => intro acc; simp [addAll]
        | cons x r ih => intro acc; rw [addAll_cons]; have h1 := ih (addL x acc); have h2 := addL_len x acc; simp; omega
      simpa using this l []
    · simp
  exact ⟨sortL l, v2, rfl, by omega, own_more ho2 hg1.size, ht1.below hb2 ht1.lt, ⟨hb2.os.trans hg1.os, hb2.tape.trans hg1.tape, hb2.output.trans hg1.output, Nat.le_trans hg1.size hb2.size, fun i hi hne => (hb2.block i (Nat.lt_of_lt_of_le hi hg1.size)).trans (hg1.block i hi hne)⟩⟩

end Go.Proofs.Ytkplmgdmkfgjhaa
