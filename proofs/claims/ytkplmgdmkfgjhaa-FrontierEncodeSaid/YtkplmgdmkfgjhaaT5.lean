/- The encoding of blocks: the program's. -/
import Derived.Test.YtkplmgdmkfgjhaaT4
import Derived.Test.YtkplmgdmkfgjhaaA4
namespace Go.Proofs.Ytkplmgdmkfgjhaa
open Go.RowKit

set_option maxHeartbeats 400000 in
theorem fIsBlock_any (A : Option Addr) (c : Nat) (l : List (Int × Int)) (w : World) (hl : PairsAt w w.heap.size A l) (hn : l.length ≤ 4611686018427387904) :
    Calls Try.prog 77 #[.slice A l.length c] w (Ret (.bool (decide (1 ≤ l.length) && decide (l.length ≤ 1024) && runB lessP none l)) w) := by
  by_cases h1 : 1 ≤ l.length
  · by_cases h2 : l.length ≤ 1024
    · go_enter Try.func77, Try.ntmps77
      go_wp2_with (go_at_call 48; refine (fIsRun_any _ _ _ _ hl hn).mono ?_; rintro e w1 ⟨rfl, hb1⟩)
      go_ret
      exact Ret.mk (by simp [h1, h2]) hb1
    · go_enter Try.func77, Try.ntmps77
      go_wp2
      go_ret
      exact Ret.mk (by simp) (Below.refl _ _)
  · go_enter Try.func77, Try.ntmps77
    go_wp2
    go_ret
    exact Ret.mk (by simp) (Below.refl _ _)

def uvI (n : Int) : List Int := uvL n.toNat
theorem cUv_int (base : Nat) (v : Value) (k : Nat) (xs : List Value) (n : Int) (w : World) (hown : w.ownsRow base 5 1 v k xs) (hbase : base ≤ w.heap.size) (h0 : 0 ≤ n) (hN : n ≤ 4294967296) (hk : k ≤ 1099511627776) :
    Calls Try.prog 83 #[v, .int .i64 n] w (RetApp 5 1 base v (k + (uvI n).length) (xs ++ bytesV (uvI n)) w) := by
  obtain ⟨N, rfl⟩ := Int.eq_ofNat_of_zero_le h0
  exact cUv_any base v k xs N w hown hbase (by omega) hk
theorem rUv_int (base : Nat) (v : Value) (k : Nat) (xs : List Value) (n : Int) (w : World) (hown : w.ownsRow base 5 1 v k xs) (hbase : base ≤ w.heap.size) (h0 : 0 ≤ n) (hN : n ≤ 4294967296) (hk : k ≤ 1099511627776) :
    Calls Try.prog 43 #[v, .int .i64 n] w (RetApp 5 1 base v (k + (uvI n).length) (xs ++ bytesV (uvI n)) w) := by
  obtain ⟨N, rfl⟩ := Int.eq_ofNat_of_zero_le h0
  exact rUv_any base v k xs N w hown hbase (by omega) hk
theorem uvI_len {n : Int} (h : n ≤ 4294967296) : (uvI n).length ≤ 5 := uvL_len5 (by omega)

def encP (prev : Option (Int × Int)) (p : Int × Int) : List Int :=
  match prev with
  | none => uvI p.1 ++ uvI p.2
  | some q => if p.1 = q.1 then uvI 0 ++ uvI (p.2 - q.2 - 1) else uvI (p.1 - q.1) ++ uvI p.2
def encAll (prev : Option (Int × Int)) : List (Int × Int) → List Int
  | [] => []
  | p :: r => encP prev p ++ encAll (some p) r
theorem encAll_cons (prev : Option (Int × Int)) (p : Int × Int) (r : List (Int × Int)) : encAll prev (p :: r) = encP prev p ++ encAll (some p) r := rfl
def encBody (l : List (Int × Int)) : List Int := uvI l.length ++ encAll none l
def encBlock (l : List (Int × Int)) : List Int := encBody l ++ sumB (encBody l)
def prevOf (l : List (Int × Int)) (k : Nat) : Option (Int × Int) := if k = 0 then none else l[k - 1]?
theorem isPairB_iff {p : Int × Int} : isPairB p = true ↔ 0 ≤ p.1 ∧ p.1 ≤ 2147483647 ∧ 0 ≤ p.2 ∧ p.2 ≤ 2147483647 := by
  simp [isPairB, and_assoc]
theorem lessP_iff {p q : Int × Int} : lessP p q = true ↔ p.1 < q.1 ∨ p.1 = q.1 ∧ p.2 < q.2 := by
  simp [lessP]

def PrevOk (q : Option (Int × Int)) : Prop := ∀ p, q = some p → isPairB p = true

set_option maxRecDepth 100000 in
set_option maxHeartbeats 1000000 in
theorem fEncode_any (A : Option Addr) (c : Nat) (l : List (Int × Int)) (w : World) (hl : PairsAt w w.heap.size A l) (hn : l.length ≤ 1024) (hrun : runB lessP none l = true) :
    Calls Try.prog 49 #[.slice A l.length c] w (RetRow 5 1 (encBlock l).length (bytesV (encBlock l)) w) := by
  have hr0 := Lib.hid hrun
  clear hrun
  go_enter Try.func49, Try.ntmps49
  go_wp2_with fail
  refine (cUv_int w.heap.size (.slice none 0 0) 0 [] l.length w (World.ownsRow_nil _ _ _ _) (Nat.le_refl _) (by omega) (by omega) (by omega)).mono ?_
  rintro e w1 ⟨v1, rfl, ho1, hg1, _⟩
  have hb1 := below_app (Below.refl w.heap.size w) (World.ownsRow_nil _ _ 5 1) hg1 (Nat.le_refl _)
  go_wp2_with fail
  go_loopw [3, 12] (fun b i wr => Below w.heap.size w wr ∧ ∃ (k : Nat) (done : List Int), k ≤ l.length ∧ i = .int .i64 k ∧ done.length ≤ 5 + 10 * k ∧ wr.ownsRow w.heap.size 5 1 b done.length (bytesV done) ∧
      encBody l = done ++ encAll (prevOf l k) (l.drop k) ∧ runB lessP (prevOf l k) (l.drop k) = true ∧ PrevOk (prevOf l k)) (fun _ i _ => l.length - (intOf i).toNat)
  case atStart => exact ⟨hb1, 0, uvI l.length, by omega, rfl, by have := uvI_len (n := (l.length : Int)) (by omega); omega, by simpa using ho1, rfl, hr0.out, fun q hq => by cases hq⟩
  case round =>
    obtain ⟨hbw, k, done, hk, rfl, hdl, ho, hrel, hru, hpok⟩ := hrel
    have HP := Lib.hid hpok
    clear hpok
    have HR := Lib.hid hrel
    have HU := Lib.hid hru
    clear hrel hru
    have hsz := hbw.size
    by_cases h1 : k < l.length
    · obtain ⟨⟨x0, x1⟩, ex⟩ := getElem?_of_lt l h1
      obtain ⟨b, off, rfl, hB, hc⟩ := hl (ne_nil_of_lt h1)
      obtain ⟨hc0, hc1⟩ := hc k (x0, x1) ex
      replace hc0 := (hbw.cell (p := ⟨b, _, none⟩) hB).trans hc0
      replace hc1 := (hbw.cell (p := ⟨b, _, none⟩) hB).trans hc1
      have hB' : b < wr.heap.size := by omega
      simp only at hc0 hc1
      have hd := drop_of_get ex
      rw [hd, runB_cons] at HU
      rw [hd, encAll_cons] at HR
      have HX := Lib.hid ex
      have hu := HU.out
      simp only [Bool.and_eq_true] at hu
      obtain ⟨⟨hpp, hless⟩, hrest⟩ := hu
      obtain ⟨p0, p1, p2, p3⟩ := isPairB_iff.1 hpp
      simp only at p0 p1 p2 p3
      have hnext : PrevOk (prevOf l (k + 1)) := by
        intro q hq
        rw [prevOf, if_neg (by omega), Nat.add_sub_cancel, ex] at hq
        injection hq with hq
        rw [← hq]
        exact hpp
      have HN := Lib.hid hnext
      have HL := Lib.hid hless
      have HT := Lib.hid hrest
      clear ex hd hpp hless hrest HU hnext
      rcases Nat.eq_zero_or_pos k with h0 | h0
      · have g1 : decide ((0 : Int) < (k : Int)) = false := decide_eq_false (by omega)
        have g2 : decide (0 < k) = false := decide_eq_false (by omega)
        have H0 := Lib.hid h0
        clear h0
        go_wp2_with fail
        refine (cUv_int w.heap.size u3 done.length (bytesV done) _ _ ((ho.alloc _).alloc _) (by simp; omega) p0 (by omega) (by omega)).mono ?_
        rintro e wa ⟨va, rfl, hoa, hga, hba⟩
        have hBa := below_app ((hbw.alloc hsz _).alloc (by simp; omega) _) ((ho.alloc _).alloc _) hga (by simp; omega)
        have q0 := hga.cell (a := ⟨wr.heap.size, 0, none⟩) (v := .int .i64 x0) (by simp) (own_ne ho (Nat.le_refl _))
        have q1 := hga.cell (a := ⟨wr.heap.size, 1, none⟩) (v := .int .i64 x1) (by simp) (own_ne ho (Nat.le_refl _))
        have z1 := uvI_len (n := x0) (by omega)
        have z2 := uvI_len (n := x1) (by omega)
        go_wp2_with fail
        refine (cUv_int w.heap.size va _ _ _ _ hoa hBa.size p2 (by omega) (by omega)).mono ?_
        rintro e wb ⟨vb, rfl, hob, hgb, hbb⟩
        have hBb := below_app hBa hoa hgb hBa.size
        go_wp2_with fail
        go_roundw
        case rel => exact ⟨hBb, k + 1, done ++ (uvI x0 ++ uvI x1), by omega, by go_num, by simp only [List.length_append]; omega,
            by simpa only [bytesV_app, List.append_assoc, List.length_append, Nat.add_assoc] using hob,
            by rw [HR.out, prevOf, prevOf, if_pos H0.out, if_neg (by omega), Nat.add_sub_cancel, HX.out, encP]; simp [List.append_assoc],
            by rw [prevOf, if_neg (by omega), Nat.add_sub_cancel, HX.out]; exact HT.out, HN.out⟩
        case measure => simp [intOf]; omega
      · obtain ⟨j, rfl⟩ : ∃ j, k = j + 1 := ⟨k - 1, by omega⟩
        obtain ⟨⟨y0, y1⟩, ey⟩ := getElem?_of_lt l (show j < l.length by omega)
        obtain ⟨hd0, hd1⟩ := hc j (y0, y1) ey
        replace hd0 := (hbw.cell (p := ⟨b, _, none⟩) hB).trans hd0
        replace hd1 := (hbw.cell (p := ⟨b, _, none⟩) hB).trans hd1
        simp only at hd0 hd1
        have hpv : prevOf l (j + 1) = some (y0, y1) := by rw [prevOf, if_neg (by omega), Nat.add_sub_cancel, ey]
        rw [hpv] at HL HR
        have hq := isPairB_iff.1 (HP.out _ hpv)
        have hless := lessP_iff.1 HL.out
        simp only at hq
        obtain ⟨s0, s1, s2, s3⟩ := hq
        simp only at hless
        have HY := Lib.hid ey
        clear ey hc HL hpv
        by_cases he : x0 = y0
        · subst he
          have hlt : y1 < x1 := by omega
          go_wp2_with fail
          refine (cUv_int w.heap.size u3 done.length (bytesV done) _ _ ((ho.alloc _).alloc _) (by simp; omega) (by omega) (by omega) (by omega)).mono ?_
          rintro e wa ⟨va, rfl, hoa, hga, hba⟩
          have hBa := below_app ((hbw.alloc hsz _).alloc (by simp; omega) _) ((ho.alloc _).alloc _) hga (by simp; omega)
          have q0 := hga.cell (a := ⟨wr.heap.size, 0, none⟩) (v := .int .i64 x0) (by simp) (own_ne ho (Nat.le_refl _))
          have q1 := hga.cell (a := ⟨wr.heap.size, 1, none⟩) (v := .int .i64 x1) (by simp) (own_ne ho (Nat.le_refl _))
          have q2 := hga.cell (a := ⟨wr.heap.size + 1, 0, none⟩) (v := .int .i64 x0) (by simp) (own_ne ho (Nat.le_succ _))
          have q3 := hga.cell (a := ⟨wr.heap.size + 1, 1, none⟩) (v := .int .i64 y1) (by simp) (own_ne ho (Nat.le_succ _))
          have z1 := uvI_len (n := 0) (by omega)
          have z2 := uvI_len (n := x1 - y1 - 1) (by omega)
          go_wp2_with fail
          refine (cUv_int w.heap.size va _ _ _ _ hoa hBa.size (by omega) (by omega) (by omega)).mono ?_
          rintro e wb ⟨vb, rfl, hob, hgb, hbb⟩
          have hBb := below_app hBa hoa hgb hBa.size
          go_wp2_with fail
          go_roundw
          case rel => exact ⟨hBb, j + 1 + 1, done ++ (uvI 0 ++ uvI (x1 - y1 - 1)), by omega, by go_num, by simp only [List.length_append]; omega,
              by simpa only [bytesV_app, List.append_assoc, List.length_append, Nat.add_assoc] using hob,
              by rw [HR.out, prevOf, if_neg (by omega), Nat.add_sub_cancel, HX.out, encP, if_pos rfl]; simp [List.append_assoc],
              by rw [prevOf, if_neg (by omega), Nat.add_sub_cancel, HX.out]; exact HT.out, HN.out⟩
          case measure => simp [intOf]; omega
        · have hlt : y0 < x0 := by omega
          have hne : (x0 == y0) = false := by simp; omega
          go_wp2_with fail
          refine (cUv_int w.heap.size u3 done.length (bytesV done) _ _ ((ho.alloc _).alloc _) (by simp; omega) (by omega) (by omega) (by omega)).mono ?_
          rintro e wa ⟨va, rfl, hoa, hga, hba⟩
          have hBa := below_app ((hbw.alloc hsz _).alloc (by simp; omega) _) ((ho.alloc _).alloc _) hga (by simp; omega)
          have q0 := hga.cell (a := ⟨wr.heap.size, 0, none⟩) (v := .int .i64 x0) (by simp) (own_ne ho (Nat.le_refl _))
          have q1 := hga.cell (a := ⟨wr.heap.size, 1, none⟩) (v := .int .i64 x1) (by simp) (own_ne ho (Nat.le_refl _))
          have q2 := hga.cell (a := ⟨wr.heap.size + 1, 0, none⟩) (v := .int .i64 y0) (by simp) (own_ne ho (Nat.le_succ _))
          have q3 := hga.cell (a := ⟨wr.heap.size + 1, 1, none⟩) (v := .int .i64 y1) (by simp) (own_ne ho (Nat.le_succ _))
          have z1 := uvI_len (n := x0 - y0) (by omega)
          have z2 := uvI_len (n := x1) (by omega)
          go_wp2_with fail
          refine (cUv_int w.heap.size va _ _ _ _ hoa hBa.size (by omega) (by omega) (by omega)).mono ?_
          rintro e wb ⟨vb, rfl, hob, hgb, hbb⟩
          have hBb := below_app hBa hoa hgb hBa.size
          go_wp2_with fail
          go_roundw
          case rel => exact ⟨hBb, j + 1 + 1, done ++ (uvI (x0 - y0) ++ uvI x1), by omega, by go_num, by simp only [List.length_append]; omega,
              by simpa only [bytesV_app, List.append_assoc, List.length_append, Nat.add_assoc] using hob,
              by rw [HR.out, prevOf, if_neg (by omega), Nat.add_sub_cancel, HX.out, encP, if_neg he]; simp [List.append_assoc],
              by rw [prevOf, if_neg (by omega), Nat.add_sub_cancel, HX.out]; exact HT.out, HN.out⟩
          case measure => simp [intOf]; omega
    · have hdn : encBody l = done := by rw [HR.out, drop_all h1]; simp [encAll]
      have HD := Lib.hid hdn
      clear hdn
      go_wp2_with fail
      refine (cSum_any w.heap.size u3 done _ ho hsz (by omega)).mono ?_
      rintro e wa ⟨va, rfl, hoa, hga, hba⟩
      have hBa := below_app hbw ho hga hsz
      go_wp2_with fail
      go_ret
      refine ⟨va, rfl, ?_, hBa⟩
      rw [encBlock, HD.out]
      simpa [sumB] using hoa

end Go.Proofs.Ytkplmgdmkfgjhaa
