/- The law FrontierEncode. -/
import Derived.Test.YtkplmgdmkfgjhaaL1
namespace Go.Proofs.Ytkplmgdmkfgjhaa
open Go.RowKit

theorem pairs_blk {w : World} (cs : Array Value) (l : List (Int × Int)) (h : cs.toList = cells2 l) : PairsAt (w.alloc (.cells cs 29)) (w.alloc (.cells cs 29)).heap.size (some ⟨w.heap.size, 0, none⟩) l := by
  intro _
  refine ⟨w.heap.size, 0, rfl, by simp, fun i p hp => ?_⟩
  obtain ⟨g0, g1⟩ := cells2_get l i p hp
  rw [← h] at g0 g1
  constructor
  · rw [cell_of_row _ w.heap.size _ cs 29 (0, 0) (heap_alloc_new w _)]; simpa using g0
  · rw [cell_of_row _ w.heap.size _ cs 29 (0, 0) (heap_alloc_new w _)]; simpa using g1

set_option maxRecDepth 100000 in
set_option maxHeartbeats 2000000 in
theorem frontierEncode_any (A B : Option Addr) (c d : Nat) (xs : List Int) (l : List (Int × Int)) (w : World) (hx : IntsAt .i64 w w.heap.size A xs) (hxl : xs.length ≤ 9223372036854775807) (hl : PairsAt w w.heap.size B l) (hll : l.length ≤ 9223372036854775807) :
    Calls Try.prog 3 #[.slice A xs.length c, .slice B l.length d] w (Ret (.bool true) w) := by
  go_enter Try.func3, Try.ntmps3
  go_wp2_with fail
  refine (New_any A c xs w hx hxl).mono ?_
  rintro e w1 ⟨rfl, ht1, hb1⟩
  go_wp2_with fail
  go_loopw [6] (fun i wr => Below w.heap.size w wr ∧ ∃ k : Nat, k ≤ 6 ∧ i = .int .i64 k ∧ TapeAt wr w.heap.size (100 * k)) (fun i _ => 6 - (intOf i).toNat)
  case atStart => exact ⟨hb1, 0, by omega, rfl, ht1⟩
  case round =>
    obtain ⟨hbw, k, hk, rfl, ht⟩ := hrel
    have hsz := hbw.size
    by_cases h1 : k < 6
    · go_wp2_with fail
      refine (run_any w.heap.size _ 9 wr ht (by omega) (by omega)).mono ?_
      rintro e wa ⟨la, va, rfl, hla, hoa, hta, hga⟩
      have hba := hbw.grown hga hsz (fun q hq => by injection hq with hq; omega)
      obtain ⟨_, Aa, ca, rfl, _, hpa⟩ := own_pairs hoa
      go_wp2_with fail
      refine (encodes_any Aa ca la wa hpa (by omega)).mono ?_
      rintro e wb ⟨rfl, hbb⟩
      have htb := hta.below hbb hta.lt
      have hbwb := hba.trans (hbb.mono hba.size)
      go_wp2_with fail
      refine (pairs_any w.heap.size _ 4 wb htb (by omega) (by omega)).mono ?_
      rintro e wc ⟨lc, vc, rfl, hlc, hoc, htc, hgc⟩
      have hbc := hbwb.grown hgc hbwb.size (fun q hq => by injection hq with hq; omega)
      obtain ⟨_, Ac, cc, rfl, _, hpc⟩ := own_pairs hoc
      go_wp2_with fail
      refine (encodes_any Ac cc lc wc hpc (by omega)).mono ?_
      rintro e wd ⟨rfl, hbd⟩
      have htd := htc.below hbd htc.lt
      have hbwd := hbc.trans (hbd.mono hbc.size)
      go_wp2_with fail
      refine (Next_any w.heap.size _ 3 wd htd (by omega) (by omega)).mono ?_
      rintro e we ⟨n1, rfl, _, hn1, hte, hge⟩
      obtain ⟨n10, n11⟩ := hn1 (by omega)
      clear hn1
      have hbe := hbwd.grown hge hbwd.size (fun q hq => by injection hq with hq; omega)
      go_wp2_with fail
      refine (Next_any w.heap.size _ 9 we hte (by omega) (by omega)).mono ?_
      rintro e wf ⟨n2, rfl, _, hn2, htf, hgf⟩
      obtain ⟨n20, n21⟩ := hn2 (by omega)
      clear hn2
      have hbf := hbe.grown hgf hbe.size (fun q hq => by injection hq with hq; omega)
      go_wp2_with fail
      refine (encodes_any _ 2 [(n1 - 1, 2), (3, n2)] _ (pairs_blk _ _ rfl) (by simp)).mono ?_
      rintro e wg ⟨rfl, hbg⟩
      have hbf2 := hbf.alloc hbf.size (.cells #[.int .i64 (n1 - 1), .int .i64 2, .int .i64 3, .int .i64 n2] 29)
      have htg := (htf.below ((Below.refl wf.heap.size wf).alloc (Nat.le_refl _) (.cells #[.int .i64 (n1 - 1), .int .i64 2, .int .i64 3, .int .i64 n2] 29)) htf.lt).below hbg (by have := htf.lt; simp; omega)
      have hbwg := hbf2.trans (hbg.mono hbf2.size)
      go_wp2_with fail
      refine (Next_any w.heap.size _ 2 wg htg (by omega) (by omega)).mono ?_
      rintro e wh ⟨n3, rfl, _, hn3, hth, hgh⟩
      obtain ⟨n30, n31⟩ := hn3 (by omega)
      clear hn3
      have hbh := hbwg.grown hgh hbwg.size (fun q hq => by injection hq with hq; omega)
      go_wp2_with fail
      refine (encodes_any _ 1 [(0, 2147483647 + n3)] _ (pairs_blk _ _ rfl) (by simp)).mono ?_
      rintro e wi ⟨rfl, hbi⟩
      have hbh2 := hbh.alloc hbh.size (.cells #[.int .i64 0, .int .i64 (2147483647 + n3)] 29)
      have hti := (hth.below ((Below.refl wh.heap.size wh).alloc (Nat.le_refl _) (.cells #[.int .i64 0, .int .i64 (2147483647 + n3)] 29)) hth.lt).below hbi (by have := hth.lt; simp; omega)
      have hbwi := hbh2.trans (hbi.mono hbh2.size)
      go_wp2_with fail
      go_roundw
      case rel => exact ⟨hbwi, k + 1, by omega, by go_num, hti.mono (by omega)⟩
      case measure => simp [intOf]; omega
    · have hpl := hl.below hbw
      by_cases h2 : l.length ≤ 100
      · go_wp2_with fail
        refine (encodes_any B d l wr (hpl.more hsz) (by omega)).mono ?_
        rintro e wa ⟨rfl, hba⟩
        have hbwa := hbw.trans (hba.mono hsz)
        go_wp2_with fail
        refine (encodes_any none 0 [] wa (fun h => absurd rfl h) (by simp)).mono ?_
        rintro e wb ⟨rfl, hbb⟩
        have hbwb := hbwa.trans (hbb.mono hbwa.size)
        go_wp2_with fail
        refine (sane_any wb).mono ?_
        rintro e wc ⟨rfl, hbc⟩
        have hbwc := hbwb.trans (hbc.mono hbwb.size)
        go_wp2_with fail
        go_ret
        exact Ret.mk (by simp) hbwc
      · go_wp2_with fail
        go_ret
        exact Ret.mk (by simp) hbw

end Go.Proofs.Ytkplmgdmkfgjhaa
