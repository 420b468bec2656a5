/- The reference's sorting. -/
import Derived.Test.YtkplmgdmkfgjhaaG2
import Derived.Test.YtkplmgdmkfgjhaaT4
namespace Go.Proofs.Ytkplmgdmkfgjhaa
open Go.RowKit

theorem part_int (xs : Array Value) (i : Nat) (v : Value) (w : World) (h : xs[i]? = some v) : (part 3 xs i).run Try.prog w = .ok v w := by
  have ha : (isAgg 3).run Try.prog w = .ok false w := by kernel_rfl
  simp only [part, Sem.run_bind, ha, Result.andThen_ok, h]
  rfl

theorem run_eql_pair (x0 x1 y0 y1 : Int) (w : World) : (binOp .eql 29 (.agg #[.int .i64 x0, .int .i64 x1]) (.agg #[.int .i64 y0, .int .i64 y1])).run Try.prog w = .ok (.bool (x0 == y0 && x1 == y1)) w := by
  have hs : (sizeOf 3).run Try.prog w = .ok 1 w := by kernel_rfl
  have e : ∀ a b : Int, (Op.equalIn 9999 3 (.int .i64 a) (.int .i64 b)).run Try.prog w = .ok (a == b) w := fun a b => run_equalIn_int w 9998 3 .i64 .i64 a b Try.underlying3
  rw [run_eql_struct, show (10000 : Nat) = 9999 + 1 from rfl]
  rw [show Op.equalIn (9999 + 1) 29 (.agg #[.int .i64 x0, .int .i64 x1]) (.agg #[.int .i64 y0, .int .i64 y1]) = _ from by rw [Op.equalIn]]
  simp only [Sem.run_bind, run_underlying Try.underlying29, Result.andThen_ok, hs]
  simp [List.range', part_int, e]
  by_cases h1 : x0 = y0 <;> by_cases h2 : x1 = y1 <;> simp [h1, h2]
theorem eqGuard_pair : Try.prog.eqGuardType Try.prog.depth 29 = false := by kernel_rfl

theorem Src.pairs {w : World} {B : Nat} {A : Option Addr} {l : List (Int × Int)} (h : PairsAt w B A l) : Src w A l.length 2 (cells2 l) := by
  refine ⟨cells2_len l, fun hm => ?_⟩
  obtain ⟨b, off, hA, _, hc⟩ := h (by rintro rfl; simp at hm)
  refine ⟨_, hA, fun j u hu => ?_⟩
  rw [addr_add]
  have hj : j < l.length * 2 := by rw [← cells2_len]; exact (List.getElem?_eq_some_iff.1 hu).1
  obtain ⟨p, hp⟩ := getElem?_of_lt l (show j / 2 < l.length by omega)
  obtain ⟨g0, g1⟩ := cells2_get l (j / 2) p hp
  obtain ⟨c0, c1⟩ := hc (j / 2) p hp
  rcases Nat.mod_two_eq_zero_or_one j with hr | hr
  · rw [show j / 2 * 2 = j by omega] at g0
    rw [hu] at g0
    injection g0 with g0
    rw [g0, ← c0]
    congr 2
    omega
  · rw [show j / 2 * 2 + 1 = j by omega] at g1
    rw [hu] at g1
    injection g1 with g1
    rw [g1, ← c1]
    congr 2
    omega
theorem PairsAt.take {w : World} {B : Nat} {A : Option Addr} {l : List (Int × Int)} (h : PairsAt w B A l) (k : Nat) : PairsAt w B A (l.take k) := by
  intro hl
  obtain ⟨b, off, hA, hB, hc⟩ := h (fun e => hl (by rw [e]; simp))
  refine ⟨b, off, hA, hB, fun i p hp => hc i p ?_⟩
  rw [List.getElem?_take] at hp
  split at hp
  · exact hp
  · cases hp
theorem PairsAt.drop {w : World} {B : Nat} {A : Option Addr} {l : List (Int × Int)} {b off : Nat} (h : PairsAt w B A l) (hA : A = some ⟨b, off, none⟩) (k : Nat) : PairsAt w B (some ⟨b, off + k * 2, none⟩) (l.drop k) := by
  intro hl
  obtain ⟨b', off', hA', hB, hc⟩ := h (fun e => hl (by rw [e]; simp))
  rw [hA] at hA'
  injection hA' with hA'
  injection hA' with e1 e2
  subst e1 e2
  refine ⟨b, _, rfl, hB, fun i p hp => ?_⟩
  rw [List.getElem?_drop] at hp
  have := hc _ p hp
  rw [show off + k * 2 + i * 2 = off + (k + i) * 2 by omega]
  exact this

def addL (x : Int × Int) : List (Int × Int) → List (Int × Int)
  | [] => [x]
  | p :: r => if lessP p x then p :: addL x r else if p = x then p :: r else x :: p :: r
theorem addL_less {x p : Int × Int} (r : List (Int × Int)) (h : lessP p x = true) : addL x (p :: r) = p :: addL x r := by rw [addL, if_pos h]
theorem addL_eq {x : Int × Int} (r : List (Int × Int)) (h : lessP x x = false) : addL x (x :: r) = x :: r := by rw [addL, if_neg (by simp [h]), if_pos rfl]
theorem addL_gt {x p : Int × Int} (r : List (Int × Int)) (h : lessP p x = false) (hne : p ≠ x) : addL x (p :: r) = x :: p :: r := by rw [addL, if_neg (by simp [h]), if_neg hne]
theorem addL_len (x : Int × Int) (l : List (Int × Int)) : (addL x l).length ≤ l.length + 1 := by
  induction l with
  | nil => simp [addL]
  | cons p r ih => unfold addL; split <;> (try split) <;> simp <;> omega

theorem own_keep {base e size n : Nat} {w w' : World} {v : Value} {xs : List Value} (h : w.ownsRow base e size v n xs) (hb : Below w.heap.size w w') : w'.ownsRow base e size v n xs := by
  refine ⟨h.1, ?_⟩
  rcases h.2 with h2 | ⟨g, cap, cur, hv, hg, hh, r⟩
  · exact .inl h2
  · exact .inr ⟨g, cap, cur, hv, hg, (hb.block g (Array.getElem?_eq_some_iff.1 hh).1).trans hh, r⟩

/-- Add's result, of a row owned from base on. -/
def RetAdd (base : Nat) (l : List (Int × Int)) (w : World) (e : Ending) (w' : World) : Prop :=
  ∃ v, e = .returned v ∧ w'.ownsRow base 29 2 v l.length (cells2 l) ∧ Below w.heap.size w w'

theorem add_end {base k : Nat} {l : List (Int × Int)} {p x : Int × Int} {w w3 : World} {v3 : Value} (hb : base ≤ w.heap.size + 1) (hr : addL x l = l.take k ++ x :: p :: l.drop (k + 1)) (hd : l.drop k = p :: l.drop (k + 1))
    (ho : w3.ownsRow (w.heap.size + 1) 29 2 v3 (0 + k + 1 + (l.length - k)) ([] ++ cells2 (l.take k) ++ (#[Value.int .i64 x.1, Value.int .i64 x.2] : Array Value).toList ++ cells2 (l.drop k))) (hbw : Below w.heap.size w w3) :
    RetAdd base (addL x l) w (.returned v3) w3 := by
  have e : cells2 (addL x l) = [] ++ cells2 (l.take k) ++ (#[Value.int .i64 x.1, Value.int .i64 x.2] : Array Value).toList ++ cells2 (l.drop k) := by
    rw [hr, hd, cells2_app]
    simp [cells2]
  have e2 : (addL x l).length = 0 + k + 1 + (l.length - k) := by
    have h1 := ho.1
    rw [← e, cells2_len] at h1
    omega
  exact ⟨v3, rfl, by rw [e, e2]; exact own_more ho hb, hbw⟩

set_option maxRecDepth 100000 in
set_option maxHeartbeats 1000000 in
theorem rAdd_any (base : Nat) (v : Value) (l : List (Int × Int)) (x0 x1 : Int) (w : World) (hown : w.ownsRow base 29 2 v l.length (cells2 l)) (hbase : base ≤ w.heap.size) (hn : l.length ≤ 1000000) :
    Calls Try.prog 78 #[v, .agg #[.int .i64 x0, .int .i64 x1]] w (RetAdd base (addL (x0, x1) l) w) := by
  obtain ⟨_, A, c, rfl, hcap, hl⟩ := own_pairs hown
  have heq := run_eql_pair
  have hgd := eqGuard_pair
  go_enter Try.func78, Try.ntmps78
  go_wp2_with fail
  go_loopw [5] (fun i wr => Below (w.heap.size + 1) (w.alloc (.cells #[.int .i64 x0, .int .i64 x1] 29)) wr ∧ ∃ k : Nat, k ≤ l.length ∧ i = .int .i64 k ∧ addL (x0, x1) l = l.take k ++ addL (x0, x1) (l.drop k)) (fun i _ => l.length - (intOf i).toNat)
  case atStart => exact ⟨Below.refl _ _, 0, by omega, rfl, by simp⟩
  case round =>
    obtain ⟨hbw, k, hk, rfl, hrel⟩ := hrel
    have HR := Lib.hid hrel
    clear hrel
    have hsz : w.heap.size + 1 ≤ wr.heap.size := by have := hbw.size; simpa using this
    have b0 : wr.cell? ⟨w.heap.size, 0, none⟩ = some (.int .i64 x0) := (hbw.cell (p := ⟨w.heap.size, 0, none⟩) (by simp)).trans (by simp)
    have b1 : wr.cell? ⟨w.heap.size, 1, none⟩ = some (.int .i64 x1) := (hbw.cell (p := ⟨w.heap.size, 1, none⟩) (by simp)).trans (by simp)
    have hB1 : w.heap.size < wr.heap.size := by omega
    have hbb : Below w.heap.size w wr := ((Below.refl _ _).alloc (Nat.le_refl _) _).trans (hbw.mono (by omega))
    have k0 : (0 : Int) ≤ (k : Int) := by omega
    by_cases h1 : k < l.length
    · obtain ⟨⟨p0, p1⟩, ex⟩ := getElem?_of_lt l h1
      obtain ⟨b, off, rfl, hB, hc⟩ := hl (ne_nil_of_lt h1)
      obtain ⟨hc0, hc1⟩ := hc k (p0, p1) ex
      replace hc0 := (hbb.cell (p := ⟨b, _, none⟩) hB).trans hc0
      replace hc1 := (hbb.cell (p := ⟨b, _, none⟩) hB).trans hc1
      have hB' : b < wr.heap.size := by omega
      simp only at hc0 hc1
      have hd := drop_of_get ex
      have k1 : (k : Int) < (l.length : Int) := by omega
      by_cases hp : lessP (p0, p1) (x0, x1) = true
      · rw [hd, addL_less _ hp] at HR
        have HX := Lib.hid ex
        clear ex hd hc
        go_wp2_with fail
        refine wp_region_ext (by kernel_rfl) (by kernel_rfl) ?_
        repeat (first | go_big_quiet_skip | (go_big_quiet_want; go_big_quiet_op; first | go_big_quiet_on | (apply Exists.intro; refine ⟨fun _ => ?_, ?_⟩; (first | (go_at_call 69; exact calls_wext (less_any _ _ _ _ _))); go_big_quiet_on)))
        refine wpQuiet_nil ?_
        intro _ hw'
        obtain ⟨x, hw''⟩ := hw'
        subst hw''
        go_wp2_with fail
        go_round
        case rel => exact ⟨below_wext hbw hsz x, k + 1, by omega, by go_num, by rw [HR.out, take_of_get HX.out, List.append_assoc]; rfl⟩
        case measure => simp [intOf]; omega
      · have hp' : lessP (p0, p1) (x0, x1) = false := by simpa using hp
        by_cases he : p0 = x0 ∧ p1 = x1
        · obtain ⟨rfl, rfl⟩ := he
          rw [hd, addL_eq _ hp'] at HR
          have HX := Lib.hid ex
          have HD := Lib.hid hd
          clear ex hd hc
          go_wp2_with fail
          refine wp_region_ext (by kernel_rfl) (by kernel_rfl) ?_
          repeat (first | go_big_quiet_skip | (go_big_quiet_want; go_big_quiet_op; first | go_big_quiet_on | (apply Exists.intro; refine ⟨fun _ => ?_, ?_⟩; (first | (go_at_call 69; exact calls_wext (less_any _ _ _ _ _))); go_big_quiet_on)))
          refine wpQuiet_nil ?_
          intro _ hw'
          obtain ⟨x, hw''⟩ := hw'
          subst hw''
          go_wp2_with fail
          go_quiet (fail)
          go_wp2_with fail
          go_ret
          exact ⟨_, rfl, by rw [HR.out, ← HD.out, List.take_append_drop]; exact own_keep hown (below_drewN (below_wext hbb (by omega) x) _), below_drewN (below_wext hbb (by omega) x) _⟩
        · have hx : (p0 == x0 && p1 == x1) = false := by simpa using he
          rw [hd, addL_gt _ hp' (by simpa using he)] at HR
          have HX := Lib.hid ex
          have HD := Lib.hid hd
          clear ex hd hc
          go_wp2_with fail
          refine wp_region_ext (by kernel_rfl) (by kernel_rfl) ?_
          repeat (first | go_big_quiet_skip | (go_big_quiet_want; go_big_quiet_op; first | go_big_quiet_on | (apply Exists.intro; refine ⟨fun _ => ?_, ?_⟩; (first | (go_at_call 69; exact calls_wext (less_any _ _ _ _ _))); go_big_quiet_on)))
          refine wpQuiet_nil ?_
          intro _ hw'
          obtain ⟨x, hw''⟩ := hw'
          subst hw''
          go_wp2_with fail
          go_quiet (fail)
          have hbW : Below w.heap.size w ((wext wr x).drewN nq) := below_drewN (below_wext hbb (by omega) x) _
          have Z : Below w.heap.size w ((wext wr x).drewN nq) ∧ w.heap.size < ((wext wr x).drewN nq).heap.size ∧ ((wext wr x).drewN nq).cell? ⟨w.heap.size, 0, none⟩ = some (.int .i64 x0) ∧ ((wext wr x).drewN nq).cell? ⟨w.heap.size, 1, none⟩ = some (.int .i64 x1) :=
            ⟨hbW, by simp; omega, (wext_cell wr x ⟨w.heap.size, 0, none⟩ hB1).trans b0, (wext_cell wr x ⟨w.heap.size, 1, none⟩ hB1).trans b1⟩
          clear hbW hbb hbw hsz b0 b1 hB1 hc0 hc1 hB'
          generalize (wext wr x).drewN nq = W at Z ⊢
          obtain ⟨hbW, hB1, b0, b1⟩ := Z
          have hs1 : Src (W.alloc (.cells #[] 29)) (some ⟨b, off, none⟩) k 2 (cells2 (l.take k)) := by
            have := Src.pairs ((hl.below (hbW.alloc hbW.size (.cells #[] 29))).take k)
            rwa [List.length_take, Nat.min_eq_left hk] at this
          have hB2 : w.heap.size + 1 ≤ W.heap.size := hB1
          go_wp2_with (first | (at_builtin; refine wpList_app_src rfl (.tmp 34) (.tmp 37) _ rfl (w.heap.size + 1) 29 2 16 el_prs (.slice (some ⟨W.heap.size, 0, none⟩) 0 0) 0 [] rfl (own_empty W _ _ _ hB2) _ _ _ _ rfl hs1 (cells2_one _) (by omega) (by omega) ?_ ?_; (simp; omega); intro v1 w1 ho1 hg1 hq1; have bx0 := hg1.cell (a := ⟨w.heap.size, 0, none⟩) (v := .int .i64 x0) ((World.cell?_alloc_lt W _ ⟨w.heap.size, 0, none⟩ hB1).trans b0) (by simp [Value.ownBlock]; omega); have bx1 := hg1.cell (a := ⟨w.heap.size, 1, none⟩) (v := .int .i64 x1) ((World.cell?_alloc_lt W _ ⟨w.heap.size, 1, none⟩ hB1).trans b1) (by simp [Value.ownBlock]; omega); have hw1 := hg1.size; simp only [World.size_alloc] at hw1; have hbw1 := below_app (hbW.alloc hbW.size (.cells #[] 29)) (own_empty W w.heap.size 29 2 hbW.size) hg1 (by simp; omega)) | (at_builtin; refine wpList_app_lit rfl (.tmp 39) (.tmp 41) _ rfl (w.heap.size + 1) 29 2 16 el_prs v1 _ _ rfl ho1 _ 1 1 rfl rfl (two_ints _ _) (by omega) (by omega) (by omega) ?_; intro v2 w2 ho2 hg2 hq2; have hbw2 := below_app hbw1 (own_more ho1 (by omega)) hg2 hbw1.size; have hs3 := Src.pairs ((hl.below hbw2).drop rfl k); rw [List.length_drop] at hs3) | (at_builtin; refine wpList_app_src rfl (.tmp 43) (.tmp 46) _ rfl (w.heap.size + 1) 29 2 16 el_prs v2 _ _ rfl ho2 _ _ _ _ rfl hs3 (cells2_one _) (by omega) (by omega) (by have := hg2.size; omega) ?_; intro v3 w3 ho3 hg3 hq3; have hbw3 := below_app hbw2 (own_more ho2 (by omega)) hg3 hbw2.size))
          go_ret
          exact add_end (by omega) HR.out HD.out ho3 hbw3
    · obtain rfl : k = l.length := by omega
      rw [List.drop_length, List.take_length, addL] at HR
      go_wp2_with fail
      refine wp_region_ext (by kernel_rfl) (by kernel_rfl) ?_
      repeat (first | go_big_quiet_skip | (go_big_quiet_want; go_big_quiet_op; first | go_big_quiet_on | (apply Exists.intro; refine ⟨fun _ => ?_, ?_⟩; (first | (fail)); go_big_quiet_on)))
      refine wpQuiet_nil ?_
      intro _ hw'
      obtain ⟨x, hw''⟩ := hw'
      subst hw''
      go_wp2_with fail
      go_quiet (fail)
      have hbW : Below w.heap.size w ((wext wr x).drewN nq) := below_drewN (below_wext hbb (by omega) x) _
      have Z : Below w.heap.size w ((wext wr x).drewN nq) ∧ w.heap.size < ((wext wr x).drewN nq).heap.size ∧ ((wext wr x).drewN nq).cell? ⟨w.heap.size, 0, none⟩ = some (.int .i64 x0) ∧ ((wext wr x).drewN nq).cell? ⟨w.heap.size, 1, none⟩ = some (.int .i64 x1) :=
        ⟨hbW, by simp; omega, (wext_cell wr x ⟨w.heap.size, 0, none⟩ hB1).trans b0, (wext_cell wr x ⟨w.heap.size, 1, none⟩ hB1).trans b1⟩
      clear hbW hbb hbw hsz b0 b1 hB1
      generalize (wext wr x).drewN nq = W at Z ⊢
      obtain ⟨hbW, hB1, b0, b1⟩ := Z
      have hs1 : Src (W.alloc (.cells #[] 29)) A l.length 2 (cells2 l) := Src.pairs ((hl.below (hbW.alloc hbW.size (.cells #[] 29))))
      have hB2 : w.heap.size + 1 ≤ W.heap.size := hB1
      go_wp2_with (first | (at_builtin; refine wpList_app_src rfl (.tmp 34) (.tmp 37) _ rfl (w.heap.size + 1) 29 2 16 el_prs (.slice (some ⟨W.heap.size, 0, none⟩) 0 0) 0 [] rfl (own_empty W _ _ _ hB2) _ _ _ _ rfl hs1 (cells2_one _) (by omega) (by omega) ?_ ?_; (simp; omega); intro v1 w1 ho1 hg1 hq1; have bx0 := hg1.cell (a := ⟨w.heap.size, 0, none⟩) (v := .int .i64 x0) ((World.cell?_alloc_lt W _ ⟨w.heap.size, 0, none⟩ hB1).trans b0) (by simp [Value.ownBlock]; omega); have bx1 := hg1.cell (a := ⟨w.heap.size, 1, none⟩) (v := .int .i64 x1) ((World.cell?_alloc_lt W _ ⟨w.heap.size, 1, none⟩ hB1).trans b1) (by simp [Value.ownBlock]; omega); have hw1 := hg1.size; simp only [World.size_alloc] at hw1; have hbw1 := below_app (hbW.alloc hbW.size (.cells #[] 29)) (own_empty W w.heap.size 29 2 hbW.size) hg1 (by simp; omega)) | (at_builtin; refine wpList_app_lit rfl (.tmp 39) (.tmp 41) _ rfl (w.heap.size + 1) 29 2 16 el_prs v1 _ _ rfl ho1 _ 1 1 rfl rfl (two_ints _ _) (by omega) (by omega) (by omega) ?_; intro v2 w2 ho2 hg2 hq2; have hbw2 := below_app hbw1 (own_more ho1 (by omega)) hg2 hbw1.size; (have hs3 : ∀ A', Src w2 A' 0 2 [] := fun _ => ⟨rfl, fun h => absurd rfl h⟩)) | (at_builtin; refine wpList_app_src rfl (.tmp 43) (.tmp 46) _ rfl (w.heap.size + 1) 29 2 16 el_prs v2 _ _ rfl ho2 _ _ _ _ rfl (hs3 _) (cells2_one []) (by omega) (by omega) (by have := hg2.size; omega) ?_; intro v3 w3 ho3 hg3 hq3; have hbw3 := below_app hbw2 (own_more ho2 (by omega)) hg3 hbw2.size))
      all_goals
        go_ret
        refine ⟨v3, rfl, ?_, hbw3⟩
        rw [HR.out, cells2_app, List.length_append]
        simpa [cells2] using own_more ho3 (show base ≤ w.heap.size + 1 by omega)

end Go.Proofs.Ytkplmgdmkfgjhaa
