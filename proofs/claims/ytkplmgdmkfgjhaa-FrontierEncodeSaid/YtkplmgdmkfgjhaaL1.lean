/- The comparison of the two encodings. -/
import Derived.Test.YtkplmgdmkfgjhaaG4
import Derived.Test.YtkplmgdmkfgjhaaT6
namespace Go.Proofs.Ytkplmgdmkfgjhaa
open Go.RowKit

theorem IntsAt.take {k : IntKind} {w : World} {B : Nat} {A : Option Addr} {xs : List Int} (h : IntsAt k w B A xs) (n : Nat) : IntsAt k w B A (xs.take n) := by
  intro hl
  obtain ⟨b, off, hA, hB, hc⟩ := h (fun e => hl (by rw [e]; simp))
  refine ⟨b, off, hA, hB, fun i p hp => hc i p ?_⟩
  rw [List.getElem?_take] at hp
  split at hp
  · exact hp
  · cases hp

/-- string(b) of a slice of bytes, nil or not. -/
theorem conv_str {w : World} {B : Nat} {A : Option Addr} {xs : List Int} (h : IntsAt .u8 w B A xs) (n c : Nat) (hn : n = xs.length) : (convert 32 9 (.slice A n c)).run Try.prog w = .ok (.string (strOfNums xs)) w := by
  subst hn
  rcases hx : xs with _ | ⟨x, r⟩
  · rcases A with _ | ad
    · exact run_convert_bytes_nil w 32 5 Try.underlying32 Try.underlying5 _ c 9 Try.underlying9
    · rw [run_convert_bytes_string w 32 9 5 _ _ c Try.underlying32 Try.underlying5 Try.underlying9, run_bytesToString w ad _ c [] (by simp [loadCells, loadCellsFrom])]
      rfl
  · obtain ⟨b, off, rfl, hB, hc⟩ := h (by rw [hx]; simp)
    rw [hx] at hc
    refine run_convert_bytes_arg w 32 5 Try.underlying32 Try.underlying5 b off _ c (x :: r) rfl (fun i hi => ?_) 9 Try.underlying9
    obtain ⟨y, hy⟩ := getElem?_of_lt (x :: r) hi
    rw [hc i y hy]
    simp [List.getD, hy]

set_option maxRecDepth 100000 in
set_option maxHeartbeats 1000000 in
theorem encodes_any (A : Option Addr) (c : Nat) (l : List (Int × Int)) (w : World) (hl : PairsAt w w.heap.size A l) (hn : l.length ≤ 4611686018427387904) :
    Calls Try.prog 11 #[.slice A l.length c] w (Ret (.bool true) w) := by
  go_enter Try.func11, Try.ntmps11
  go_wp2_with fail
  refine (fEncB_any A c l w hl hn).mono ?_
  rintro e w1 (⟨hb, v1, rfl, ho1, hb1⟩ | ⟨hb, rfl, hb1⟩)
  · go_wp2_with fail
    refine (rEncB_any A c l w1 ((hl.below hb1).more hb1.size) hn).mono ?_
    rintro e w2 (⟨_, v2, rfl, ho2, hb2⟩ | ⟨hbf, _, _⟩)
    · have ho1' := own_keep ho1 hb2
      obtain ⟨q1, A1, c1, rfl, _, r1⟩ := own_bytes ho1'
      obtain ⟨q2, A2, c2, rfl, _, r2⟩ := own_bytes ho2
      have hconv1 := conv_str r1 _ c1 rfl
      have hconv2 := conv_str r2 _ c2 rfl
      go_wp2_with fail
      go_ret
      exact Ret.mk (by simp) (hb1.trans (hb2.mono hb1.size))
    · rw [hb] at hbf; cases hbf
  · go_wp2_with fail
    refine (rEncB_any A c l w1 ((hl.below hb1).more hb1.size) hn).mono ?_
    rintro e w2 (⟨hbt, _⟩ | ⟨_, rfl, hb2⟩)
    · rw [hb] at hbt; cases hbt
    · have hnone : ∀ B, IntsAt .u8 w2 B none [] := fun B h => absurd rfl h
      have hconv := conv_str (hnone w2.heap.size) 0 0 rfl
      go_wp2_with fail
      go_ret
      exact Ret.mk (by simp) (hb1.trans (hb2.mono hb1.size))

theorem uvI_small (n : Nat) (h : n < 128) : uvI (n : Int) = [(n : Int)] := by rw [uvI, Int.toNat_natCast, uvL_lt h]
theorem sane_body : encBody [(0, 5), (0, 7), (2, 1)] = [3, 0, 5, 0, 1, 2, 1] := by
  have h : ∀ n : Nat, n < 128 → uvI (n : Int) = [(n : Int)] := uvI_small
  have h0 := h 0 (by omega); have h1 := h 1 (by omega); have h2 := h 2 (by omega); have h3 := h 3 (by omega); have h5 := h 5 (by omega)
  simp only [encBody, encAll, encP, List.length_cons, List.length_nil]
  simp at h0 h1 h2 h3 h5 ⊢
  simp [h0, h1, h2, h3, h5]

set_option maxRecDepth 100000 in
set_option maxHeartbeats 1000000 in
theorem sane_any (w : World) : Calls Try.prog 15 #[] w (Ret (.bool true) w) := by
  have hblk : isBlkB [(0, 5), (0, 7), (2, 1)] = true := by decide
  go_enter Try.func15, Try.ntmps15
  go_wp2_with fail
  have hp : PairsAt (w.alloc (.cells #[.int .i64 0, .int .i64 5, .int .i64 0, .int .i64 7, .int .i64 2, .int .i64 1] 29)) (w.heap.size + 1) (some ⟨w.heap.size, 0, none⟩) [(0, 5), (0, 7), (2, 1)] := by
    intro _
    refine ⟨w.heap.size, 0, rfl, by omega, fun i p hp => ?_⟩
    match i, hp with
    | 0, hp => simp at hp; subst hp; simp
    | 1, hp => simp at hp; subst hp; simp
    | 2, hp => simp at hp; subst hp; simp
  refine (fEncB_any _ 3 [(0, 5), (0, 7), (2, 1)] _ (by simpa using hp) (by simp)).mono ?_
  rintro e w1 (⟨_, v1, rfl, ho1, hb1⟩ | ⟨hbf, _, _⟩)
  · have hb0 := ((Below.refl w.heap.size w).alloc (Nat.le_refl _) (.cells #[.int .i64 0, .int .i64 5, .int .i64 0, .int .i64 7, .int .i64 2, .int .i64 1] 29)).trans (hb1.mono (by simp))
    obtain ⟨q1, A1, c1, rfl, hc1, r1⟩ := own_bytes ho1
    have hlen : (encBlock [(0, 5), (0, 7), (2, 1)]).length = 11 := by rw [encBlock, sane_body]; rfl
    have htake : (encBlock [(0, 5), (0, 7), (2, 1)]).take 7 = [3, 0, 5, 0, 1, 2, 1] := by rw [encBlock, sane_body]; rfl
    have r7 := r1.take 7
    rw [htake] at r7
    have hconv := conv_str r7 7 c1 rfl
    rw [hlen] at hc1 ⊢
    clear hlen htake
    go_wp2_with fail
    go_ret
    refine Ret.mk ?_ hb0
    show Value.bool ((strOfNums [3, 0, 5, 0, 1, 2, 1]).toList == [3, 0, 5, 0, 1, 2, 1]) = _
    rw [ByteArray.toList_eq]
    rfl
  · rw [hblk] at hbf; cases hbf

end Go.Proofs.Ytkplmgdmkfgjhaa
