/- EncodeBlock: the program's and the reference's. -/
import Derived.Test.YtkplmgdmkfgjhaaT5
namespace Go.Proofs.Ytkplmgdmkfgjhaa
open Go.RowKit

theorem own_ne' {base e size n g : Nat} {w : World} {v : Value} {xs : List Value} (hown : w.ownsRow base e size v n xs) (hg : g < base) : some g ≠ v.ownBlock :=
  fun h => by have := (hown.lt _ h.symm).1; omega

theorem grown_undrew {w w' : World} {r : Option Nat} (h : w.drew.grownBy w' r) : w.grownBy w' r := ⟨h.os, h.tape, h.output, h.size, h.block⟩
theorem rUv_drew (base : Nat) (v : Value) (k : Nat) (xs : List Value) (n : Int) (w : World) (hown : w.ownsRow base 5 1 v k xs) (hbase : base ≤ w.heap.size) (h0 : 0 ≤ n) (hN : n ≤ 4294967296) (hk : k ≤ 1099511627776) :
    Calls Try.prog 43 #[v, .int .i64 n] w.drew (RetApp 5 1 base v (k + (uvI n).length) (xs ++ bytesV (uvI n)) w.drew) := rUv_int base v k xs n w.drew hown hbase h0 hN hk
def isBlkB (l : List (Int × Int)) : Bool := decide (1 ≤ l.length) && decide (l.length ≤ 1024) && runB lessP none l
/-- EncodeBlock's result. -/
def RetEnc (l : List (Int × Int)) (w : World) (e : Ending) (w' : World) : Prop :=
  (isBlkB l = true ∧ ∃ v, e = .returned (.tuple #[v, .int .i64 0]) ∧ w'.ownsRow w.heap.size 5 1 v (encBlock l).length (bytesV (encBlock l)) ∧ Below w.heap.size w w') ∨
  (isBlkB l = false ∧ e = .returned (.tuple #[.slice none 0 0, .int .i64 1]) ∧ Below w.heap.size w w')

set_option maxHeartbeats 400000 in
theorem fEncB_any (A : Option Addr) (c : Nat) (l : List (Int × Int)) (w : World) (hl : PairsAt w w.heap.size A l) (hn : l.length ≤ 4611686018427387904) :
    Calls Try.prog 41 #[.slice A l.length c] w (RetEnc l w) := by
  by_cases hb : isBlkB l = true
  · have hb' := hb
    simp only [isBlkB, Bool.and_eq_true, decide_eq_true_eq] at hb'
    obtain ⟨⟨h1, h2⟩, h3⟩ := hb'
    have hrn := Lib.hid h3
    have hval : (decide (1 ≤ l.length) && decide (l.length ≤ 1024) && runB lessP none l) = true := hb
    go_enter Try.func41, Try.ntmps41
    go_wp2_with fail
    refine (fIsBlock_any A c l w hl hn).mono ?_
    rintro e w1 ⟨rfl, hb1⟩
    rw [hval]
    clear h3 hval
    go_wp2_with fail
    refine (fEncode_any A c l w1 ((hl.below hb1).more hb1.size) h2 hrn.out).mono ?_
    rintro e w2 ⟨v, rfl, ho, hb2⟩
    go_wp2_with fail
    go_ret2
    exact .inl ⟨hb, v, rfl, own_more ho hb1.size, hb1.trans (hb2.mono hb1.size)⟩
  · have hb' : isBlkB l = false := by simpa using hb
    have hval : (decide (1 ≤ l.length) && decide (l.length ≤ 1024) && runB lessP none l) = false := hb'
    go_enter Try.func41, Try.ntmps41
    go_wp2_with fail
    refine (fIsBlock_any A c l w hl hn).mono ?_
    rintro e w1 ⟨rfl, hb1⟩
    rw [hval]
    clear hval
    go_wp2_with fail
    go_ret2
    exact .inr ⟨hb', rfl, hb1⟩

set_option maxRecDepth 100000 in
set_option maxHeartbeats 1000000 in
theorem rEncB_any (A : Option Addr) (c : Nat) (l : List (Int × Int)) (w : World) (hl : PairsAt w w.heap.size A l) (hn : l.length ≤ 4611686018427387904) :
    Calls Try.prog 16 #[.slice A l.length c] w (RetEnc l w) := by
  by_cases hb : isBlkB l = true
  · have hb' := hb
    simp only [isBlkB, Bool.and_eq_true, decide_eq_true_eq] at hb'
    obtain ⟨⟨hl1, hl2⟩, hrn⟩ := hb'
    have hr0 := Lib.hid hrn
    have HB := Lib.hid hb
    clear hb
    go_enter Try.func16, Try.ntmps16
    go_wp2_with fail
    refine (rIsRun_any A c l w hl hn).mono ?_
    rintro e w0 ⟨rfl, hb0⟩
    rw [hrn]
    clear hrn
    go_wp2_with fail
    refine (rUv_int w.heap.size (.slice none 0 0) 0 [] l.length w0 (World.ownsRow_nil _ _ _ _) hb0.size (by omega) (by omega) (by omega)).mono ?_
    rintro e w1 ⟨v1, rfl, ho1, hg1, _⟩
    have hb1 := below_app hb0 (World.ownsRow_nil w0 w.heap.size 5 1) hg1 hb0.size
    go_wp2_with fail
    go_loopw [4, 5] (fun b i wr => Below w.heap.size w wr ∧ ∃ (k : Nat) (done : List Int), k ≤ l.length ∧ i = .int .i64 k ∧ done.length ≤ 5 + 10 * k ∧ wr.ownsRow w.heap.size 5 1 b done.length (bytesV done) ∧
        encBody l = done ++ encAll (prevOf l k) (l.drop k) ∧ runB lessP (prevOf l k) (l.drop k) = true ∧ PrevOk (prevOf l k)) (fun _ i _ => l.length - (intOf i).toNat)
    case atStart => exact ⟨hb1, 0, uvI l.length, by omega, rfl, by have := uvI_len (n := (l.length : Int)) (by omega); omega, by simpa using ho1, rfl, hr0.out, fun q hq => by cases hq⟩
    case round =>
      obtain ⟨hbw, k, done, hk, rfl, hdl, ho, hrel, hru, hpok⟩ := hrel
      have HP := Lib.hid hpok
      have HR := Lib.hid hrel
      have HU := Lib.hid hru
      clear hrel hru hpok
      have hsz := hbw.size
      by_cases h1 : k < l.length
      · obtain ⟨⟨x0, x1⟩, ex⟩ := getElem?_of_lt l h1
        obtain ⟨b, off, rfl, hB, hc⟩ := hl (ne_nil_of_lt h1)
        obtain ⟨hc0, hc1⟩ := hc k (x0, x1) ex
        replace hc0 := (hbw.cell (p := ⟨b, _, none⟩) hB).trans hc0
        replace hc1 := (hbw.cell (p := ⟨b, _, none⟩) hB).trans hc1
        have hB' : b < wr.heap.size := by omega
        simp only at hc0 hc1
        have hd := drop_of_get ex
        rw [hd, runB_cons] at HU
        rw [hd, encAll_cons] at HR
        have HX := Lib.hid ex
        have hu := HU.out
        simp only [Bool.and_eq_true] at hu
        obtain ⟨⟨hpp, hless⟩, hrest⟩ := hu
        obtain ⟨p0, p1, p2, p3⟩ := isPairB_iff.1 hpp
        simp only at p0 p1 p2 p3
        have hnext : PrevOk (prevOf l (k + 1)) := by
          intro q hq
          rw [prevOf, if_neg (by omega), Nat.add_sub_cancel, ex] at hq
          injection hq with hq
          rw [← hq]
          exact hpp
        have HN := Lib.hid hnext
        have HL := Lib.hid hless
        have HT := Lib.hid hrest
        have i0 : (0 : Int) ≤ (k : Int) := by omega
        have i1 : (k : Int) < (l.length : Int) := by omega
        have i2 : (0 : Int) < (l.length : Int) := by omega
        have i3 : 0 < l.length := by omega
        clear ex hd hpp hless hrest HU hnext
        rcases Nat.eq_zero_or_pos k with h0 | h0
        · have g1 : ((k : Int) == 0) = true := by simp; omega
          have hc0' : wr.cell? ⟨b, off, none⟩ = some (.int .i64 x0) := by have := hc0; rw [h0] at this; simpa using this
          have hc1' : wr.cell? ⟨b, off + 1, none⟩ = some (.int .i64 x1) := by have := hc1; rw [h0] at this; simpa using this
          have H0 := Lib.hid h0
          clear h0
          have z1 := uvI_len (n := x0) (by omega)
          have z2 := uvI_len (n := x1) (by omega)
          have a1 : x0 ≤ 4294967296 := by omega
          have a2 : x1 ≤ 4294967296 := by omega
          have b1 : done.length ≤ 1099511627776 := by omega
          have b2 : done.length + (uvI x0).length ≤ 1099511627776 := by omega
          go_wp2_with fail
          go_region_held3 (fun W => W.cell? ⟨b, off, none⟩ = some (.int .i64 x0) ∧ W.cell? ⟨b, off + 1, none⟩ = some (.int .i64 x1))
            (first | exact ⟨hc0', hc1'⟩ | exact ⟨hgb.cell (hga.cell hc0' (own_ne' ho hB)) (own_ne' hoa hB), hgb.cell (hga.cell hc1' (own_ne' ho hB)) (own_ne' hoa hB)⟩ | exact ⟨hga.cell hc0' (own_ne' ho hB), hga.cell hc1' (own_ne' ho hB)⟩)
            (first | (go_at_call 43; (with_reducible refine (rUv_drew w.heap.size u4 done.length (bytesV done) _ _ ho hsz p0 a1 b1).mono ?_); rintro e wa ⟨va, rfl, hoa, hga, hba⟩; replace hga := grown_undrew hga) | (go_at_call 43; (with_reducible refine (rUv_int w.heap.size va _ _ _ _ hoa (Nat.le_trans hsz hga.size) p2 a2 b2).mono ?_); rintro e wb ⟨vb, rfl, hob, hgb, hbb⟩))
          go_wp2_with fail
          have hBa := below_app hbw ho hga hsz
          have hBb := below_app hBa hoa hgb hBa.size
          go_roundw
          case rel => exact ⟨hBb, k + 1, done ++ (uvI x0 ++ uvI x1), by omega, by go_num, by simp only [List.length_append]; omega,
              by simpa only [bytesV_app, List.append_assoc, List.length_append, Nat.add_assoc] using hob,
              by rw [HR.out, prevOf, prevOf, if_pos H0.out, if_neg (by omega), Nat.add_sub_cancel, HX.out, encP]; simp [List.append_assoc],
              by rw [prevOf, if_neg (by omega), Nat.add_sub_cancel, HX.out]; exact HT.out, HN.out⟩
          case measure => simp [intOf]; omega
        · obtain ⟨j, rfl⟩ : ∃ j, k = j + 1 := ⟨k - 1, by omega⟩
          obtain ⟨⟨y0, y1⟩, ey⟩ := getElem?_of_lt l (show j < l.length by omega)
          obtain ⟨hd0, hd1⟩ := hc j (y0, y1) ey
          replace hd0 := (hbw.cell (p := ⟨b, _, none⟩) hB).trans hd0
          replace hd1 := (hbw.cell (p := ⟨b, _, none⟩) hB).trans hd1
          simp only at hd0 hd1
          have hpv : prevOf l (j + 1) = some (y0, y1) := by rw [prevOf, if_neg (by omega), Nat.add_sub_cancel, ey]
          rw [hpv] at HL HR
          have hq := isPairB_iff.1 (HP.out _ hpv)
          have hless := lessP_iff.1 HL.out
          simp only at hq
          obtain ⟨s0, s1, s2, s3⟩ := hq
          simp only at hless
          have HY := Lib.hid ey
          have g1 : ((j : Int) + 1 == 0) = false := beq_eq_false_iff_ne.2 (by omega)
          have g1' : (((j + 1 : Nat) : Int) == 0) = false := beq_eq_false_iff_ne.2 (by omega)
          have j3 : (0 : Int) ≤ (j : Int) + 1 := by omega
          have j4 : IntKind.i64.wrap (j : Int) = (j : Int) := IntWalk.i64_in _ (by omega)
          have j5 : ((j : Int) + 1).toNat = j + 1 := by omega
          have j0 : (0 : Int) ≤ (j : Int) := by omega
          have j1 : (j : Int) < (l.length : Int) := by omega
          have j2 : (j : Int) + 1 < (l.length : Int) := by omega
          clear ey hc HL hpv
          by_cases he : x0 = y0
          · subst he
            have hlt : y1 < x1 := by omega
            have z1 := uvI_len (n := 0) (by omega)
            have z2 := uvI_len (n := x1 - y1 - 1) (by omega)
            have a0 : (0 : Int) ≤ 0 := by omega
            have a1 : (0 : Int) ≤ 4294967296 := by omega
            have a3 : 0 ≤ x1 - y1 - 1 := by omega
            have a4 : x1 - y1 - 1 ≤ 4294967296 := by omega
            have b1 : done.length ≤ 1099511627776 := by omega
            have b2 : done.length + (uvI 0).length ≤ 1099511627776 := by omega
            have e1 : IntKind.i64.wrap (x1 - y1) = x1 - y1 := IntWalk.i64_in _ (by omega)
            have e2 : IntKind.i64.wrap (x1 - y1 - 1) = x1 - y1 - 1 := IntWalk.i64_in _ (by omega)
            go_wp2_with fail
            go_quiet (fail)
            have Z : (wr.drewN nq).ownsRow w.heap.size 5 1 u4 done.length (bytesV done) ∧ (wr.drewN nq).cell? ⟨b, off + (j + 1) * 2, none⟩ = some (.int .i64 x0) ∧ (wr.drewN nq).cell? ⟨b, off + (j + 1) * 2 + 1, none⟩ = some (.int .i64 x1) ∧
                (wr.drewN nq).cell? ⟨b, off + j * 2, none⟩ = some (.int .i64 x0) ∧ (wr.drewN nq).cell? ⟨b, off + j * 2 + 1, none⟩ = some (.int .i64 y1) ∧ Below w.heap.size w (wr.drewN nq) ∧ w.heap.size ≤ (wr.drewN nq).heap.size := ⟨ho, hc0, hc1, hd0, hd1, below_drewN hbw _, hsz⟩
            clear ho hc0 hc1 hd0 hd1 hbw hsz hB'
            generalize wr.drewN nq = wq at Z ⊢
            obtain ⟨ho, hc0, hc1, hd0, hd1, hbw, hsz⟩ := Z
            go_wp2_with fail
            go_region_held3 (fun W => W.cell? ⟨b, off + (j + 1) * 2, none⟩ = some (.int .i64 x0) ∧ W.cell? ⟨b, off + (j + 1) * 2 + 1, none⟩ = some (.int .i64 x1) ∧ W.cell? ⟨b, off + j * 2, none⟩ = some (.int .i64 x0) ∧ W.cell? ⟨b, off + j * 2 + 1, none⟩ = some (.int .i64 y1))
            (first | exact ⟨hc0, hc1, hd0, hd1⟩ | exact ⟨hgb.cell (hga.cell hc0 (own_ne' ho hB)) (own_ne' hoa hB), hgb.cell (hga.cell hc1 (own_ne' ho hB)) (own_ne' hoa hB), hgb.cell (hga.cell hd0 (own_ne' ho hB)) (own_ne' hoa hB), hgb.cell (hga.cell hd1 (own_ne' ho hB)) (own_ne' hoa hB)⟩ | exact ⟨hga.cell hc0 (own_ne' ho hB), hga.cell hc1 (own_ne' ho hB), hga.cell hd0 (own_ne' ho hB), hga.cell hd1 (own_ne' ho hB)⟩)
            (first | (go_at_call 43; (with_reducible refine (rUv_drew w.heap.size u4 done.length (bytesV done) _ _ ho hsz a0 a1 b1).mono ?_); rintro e wa ⟨va, rfl, hoa, hga, hba⟩; replace hga := grown_undrew hga) | (go_at_call 43; (with_reducible refine (rUv_int w.heap.size va _ _ _ _ hoa (Nat.le_trans hsz hga.size) a3 a4 b2).mono ?_); rintro e wb ⟨vb, rfl, hob, hgb, hbb⟩))
            go_wp2_with fail
            have hBa := below_app hbw ho hga hsz
            have hBb := below_app hBa hoa hgb hBa.size
            go_roundw
            case rel => exact ⟨hBb, j + 1 + 1, done ++ (uvI 0 ++ uvI (x1 - y1 - 1)), by omega, by go_num, by simp only [List.length_append]; omega,
                by simpa only [bytesV_app, List.append_assoc, List.length_append, Nat.add_assoc] using hob,
                by rw [HR.out, prevOf, if_neg (by omega), Nat.add_sub_cancel, HX.out, encP, if_pos rfl]; simp [List.append_assoc],
                by rw [prevOf, if_neg (by omega), Nat.add_sub_cancel, HX.out]; exact HT.out, HN.out⟩
            case measure => simp [intOf]; omega

          · have hlt : y0 < x0 := by omega
            have hne : (x0 == y0) = false := by simp; omega
            have z1 := uvI_len (n := x0 - y0) (by omega)
            have z2 := uvI_len (n := x1) (by omega)
            have a0 : 0 ≤ x0 - y0 := by omega
            have a1 : x0 - y0 ≤ 4294967296 := by omega
            have a3 : 0 ≤ x1 := by omega
            have a4 : x1 ≤ 4294967296 := by omega
            have b1 : done.length ≤ 1099511627776 := by omega
            have b2 : done.length + (uvI (x0 - y0)).length ≤ 1099511627776 := by omega
            have e1 : IntKind.i64.wrap (x0 - y0) = x0 - y0 := IntWalk.i64_in _ (by omega)
            go_wp2_with fail
            go_quiet (fail)
            have Z : (wr.drewN nq).ownsRow w.heap.size 5 1 u4 done.length (bytesV done) ∧ (wr.drewN nq).cell? ⟨b, off + (j + 1) * 2, none⟩ = some (.int .i64 x0) ∧ (wr.drewN nq).cell? ⟨b, off + (j + 1) * 2 + 1, none⟩ = some (.int .i64 x1) ∧
                (wr.drewN nq).cell? ⟨b, off + j * 2, none⟩ = some (.int .i64 y0) ∧ (wr.drewN nq).cell? ⟨b, off + j * 2 + 1, none⟩ = some (.int .i64 y1) ∧ Below w.heap.size w (wr.drewN nq) ∧ w.heap.size ≤ (wr.drewN nq).heap.size := ⟨ho, hc0, hc1, hd0, hd1, below_drewN hbw _, hsz⟩
            clear ho hc0 hc1 hd0 hd1 hbw hsz hB'
            generalize wr.drewN nq = wq at Z ⊢
            obtain ⟨ho, hc0, hc1, hd0, hd1, hbw, hsz⟩ := Z
            go_wp2_with fail
            go_region_held3 (fun W => W.cell? ⟨b, off + (j + 1) * 2, none⟩ = some (.int .i64 x0) ∧ W.cell? ⟨b, off + (j + 1) * 2 + 1, none⟩ = some (.int .i64 x1) ∧ W.cell? ⟨b, off + j * 2, none⟩ = some (.int .i64 y0) ∧ W.cell? ⟨b, off + j * 2 + 1, none⟩ = some (.int .i64 y1))
            (first | exact ⟨hc0, hc1, hd0, hd1⟩ | exact ⟨hgb.cell (hga.cell hc0 (own_ne' ho hB)) (own_ne' hoa hB), hgb.cell (hga.cell hc1 (own_ne' ho hB)) (own_ne' hoa hB), hgb.cell (hga.cell hd0 (own_ne' ho hB)) (own_ne' hoa hB), hgb.cell (hga.cell hd1 (own_ne' ho hB)) (own_ne' hoa hB)⟩ | exact ⟨hga.cell hc0 (own_ne' ho hB), hga.cell hc1 (own_ne' ho hB), hga.cell hd0 (own_ne' ho hB), hga.cell hd1 (own_ne' ho hB)⟩)
            (first | (go_at_call 43; (with_reducible refine (rUv_drew w.heap.size u4 done.length (bytesV done) _ _ ho hsz a0 a1 b1).mono ?_); rintro e wa ⟨va, rfl, hoa, hga, hba⟩; replace hga := grown_undrew hga) | (go_at_call 43; (with_reducible refine (rUv_int w.heap.size va _ _ _ _ hoa (Nat.le_trans hsz hga.size) a3 a4 b2).mono ?_); rintro e wb ⟨vb, rfl, hob, hgb, hbb⟩))
            go_wp2_with fail
            have hBa := below_app hbw ho hga hsz
            have hBb := below_app hBa hoa hgb hBa.size
            go_roundw
            case rel => exact ⟨hBb, j + 1 + 1, done ++ (uvI (x0 - y0) ++ uvI x1), by omega, by go_num, by simp only [List.length_append]; omega,
                by simpa only [bytesV_app, List.append_assoc, List.length_append, Nat.add_assoc] using hob,
                by rw [HR.out, prevOf, if_neg (by omega), Nat.add_sub_cancel, HX.out, encP, if_neg he]; simp [List.append_assoc],
                by rw [prevOf, if_neg (by omega), Nat.add_sub_cancel, HX.out]; exact HT.out, HN.out⟩
            case measure => simp [intOf]; omega

      · have hdn : encBody l = done := by rw [HR.out, drop_all h1]; simp [encAll]
        have HD := Lib.hid hdn
        clear hdn
        go_wp2_with fail
        have ho2 := own_bytes ho
        obtain ⟨_, A2, c2, rfl, _, hr2⟩ := ho2
        refine (rSealed_any A2 c2 done wr hr2 (by omega)).mono ?_
        rintro e w5 ⟨v5, rfl, ho5, hb5⟩
        go_wp2_with fail
        go_ret2
        refine .inl ⟨HB.out, v5, rfl, ?_, hbw.trans (hb5.mono hsz)⟩
        rw [encBlock, HD.out]
        simpa [sumB] using own_more ho5 hsz
  · have hb' : isBlkB l = false := by simpa using hb
    have HB := Lib.hid hb'
    clear hb hb'
    by_cases hr : runB lessP none l = true
    · have hbb : ¬ (1 ≤ l.length) ∨ ¬ l.length ≤ 1024 := by
        have h := HB.out
        simp only [isBlkB, hr, Bool.and_true, Bool.and_eq_false_iff, decide_eq_false_iff_not] at h
        exact h
      go_enter Try.func16, Try.ntmps16
      go_wp2_with fail
      refine (rIsRun_any A c l w hl hn).mono ?_
      rintro e w0 ⟨rfl, hb0⟩
      rw [hr]
      clear hr
      by_cases h1 : 1 ≤ l.length
      · have h2 : ¬ l.length ≤ 1024 := by omega
        go_wp2_with fail
        go_ret2
        exact .inr ⟨HB.out, rfl, hb0⟩
      · go_wp2_with fail
        go_ret2
        exact .inr ⟨HB.out, rfl, hb0⟩
    · have hr' : runB lessP none l = false := by simpa using hr
      go_enter Try.func16, Try.ntmps16
      go_wp2_with fail
      refine (rIsRun_any A c l w hl hn).mono ?_
      rintro e w0 ⟨rfl, hb0⟩
      rw [hr']
      clear hr hr'
      go_wp2_with fail
      go_ret2
      exact .inr ⟨HB.out, rfl, hb0⟩

end Go.Proofs.Ytkplmgdmkfgjhaa
