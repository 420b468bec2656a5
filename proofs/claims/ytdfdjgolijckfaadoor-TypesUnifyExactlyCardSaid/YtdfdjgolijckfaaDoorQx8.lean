/- The solver of the reference: fits, typ, sorted. -/
import Derived.Test.YtdfdjgolijckfaaDoorQx7
import Derived.Test.YtdfdjgolijckfaaDoorQx3
import Derived.Test.YtdfdjgolijckfaaDoorQx6
import Derived.LaidMore
import Derived.Stop.Joined
import Derived.SevenTiedAt
import Derived.Test.YtdfdjgolijckfaaDoorTie
import Derived.Test.YtdfdjgolijckfaaDoorCards
namespace Go.Proofs.YtdfdjgolijckfaaDoor
attribute [local irreducible] FU
theorem var_app {G T : List Sd} {m : List (Int × Int)} (hi : HInv (cG G)) (hi' : HInv (cG (G ++ T))) {A : List Nd} (hv : VarsIn A m G.length) : sbt (fun v => val0 (cG (G ++ T)) ((lookL m v).getD (-1))) A = sbt (fun v => val0 (cG G) ((lookL m v).getD (-1))) A := sbt_congr (fun v h => by
  obtain ⟨i, h1, h2⟩ := hv v h
  rw [h1, Option.getD_some, cG_app]
  rw [cG_app] at hi'
  exact val0_app hi hi' (by omega) (by rw [cG_len]; omega))
theorem wFits {A : List Nd} {d : Nat} {m : List (Int × Int)} {G : List Sd} (hT : Tr d A) (hd : d ≤ 1000) (hA : A.length ≤ 512) (hi : HInv (cG G)) (hct : CntOk G) (hv : VarsIn A m G.length) (hl : G.length ≤ 2000) :
    ∃ T, m_ref6_solver_fits (G, m) A = some (vdB (sbt (fun v => val0 (cG G) ((lookL m v).getD (-1))) A), (G ++ T, m)) ∧ HInv (cG (G ++ T)) ∧ CntOk (G ++ T) ∧ (G ++ T).length ≤ G.length + A.length := by
  obtain ⟨k, G', e1, ok⟩ := sAddV (m := m) d FU (by have := FU_ge; omega) A G hT hA hi hct hv (by omega)
  obtain ⟨T, hT'⟩ := ok.ext
  subst hT'
  have hlen := ok.len
  have hval := ok.val _ (val0_sol ok.inv)
  rw [var_app hi ok.inv hv] at hval
  refine ⟨T, ?_, ok.inv, ok.cnt, ok.len⟩
  obtain ⟨rk, hr, hrb⟩ := rank_small ok.inv
  rw [cG_len] at hrb
  obtain ⟨p, sz, dp, e2, ⟨m1, m2, m3, m4⟩, _⟩ := measr_ok ok.inv (by omega) hr hrb m FU k (List.replicate (Int.toNat (((G ++ T).length : Nat) : Int)) (0 : Int)) (List.replicate (Int.toNat (((G ++ T).length : Nat) : Int)) (0 : Int)) (by have := hrb k; have := FU_ge; omega) ok.idx.1 ok.idx.2 ⟨by rw [cG_len, List.length_replicate, Int.toNat_natCast], by rw [cG_len, List.length_replicate, Int.toNat_natCast], fun y hy hp => by
    rw [cG_len] at hy
    rw [gi_nat (by rw [List.length_replicate]; omega), List.getElem_replicate] at hp
    omega⟩
  rw [hval] at m1 m4
  unfold m_ref6_solver_fits m_ref6_solver_add m_ref6_solver_measure
  rw [e1, bnd1_mk]
  dsimp only
  rw [need_pos (by omega), need_pos (by omega), e2, bnd1_mk, jn_eq]
  dsimp only
  have h := @vd_tr (sbt (fun v => val0 (cG G) ((lookL m v).getD (-1))) A)
  have h64 := m4 64
  rw [h64] at h
  by_cases h1 : p.1 ≤ 512
  · rw [if_pos h1]
    congr 1
    refine Prod.ext (Bool.eq_iff_iff.2 ?_) rfl
    simp only [decide_eq_true_eq]
    rw [h]
    constructor
    · intro h2; exact ⟨by omega, by omega⟩
    · rintro ⟨h2, _⟩; omega
  · rw [if_neg h1]
    congr 1
    refine Prod.ext (Bool.eq_iff_iff.2 ?_) rfl
    simp only [Bool.false_eq_true, false_iff]
    rw [h]
    rintro ⟨_, h2⟩; omega
/-! ### typ -/
theorem typrL {self : SV → Int → Option (List Nd × SV)} {G : List Sd} {m : List (Int × Int)} {y1 : Int × SV} (h0 : 0 ≤ y1.1) (h1 : y1.1 < (G.length : Int)) {ks : List Int} (hks : (gi G y1.1).2.1 = ks) (hk9 : ks.length ≤ 9) (f : Int → List Nd)
    (hself : ∀ k ∈ ks, (f k).length ≤ 1000000 → self (G, m) k = some (f k, (G, m))) (K : List Sd → List (Int × Int) → List Nd → Option (List Nd × SV)) :
    ∀ (pa : List Int) (j n : Nat) (out : List Nd), ks.drop j = pa → j + pa.length = ks.length → pa.length < n → out.length + (pa.map f).flatten.length ≤ 1000000 → m_ref6_solver_typ_L2 self y1 K n G m out (j : Int) = K G m (out ++ (pa.map f).flatten)
  | [], j, n, out, hd, hj, hn, _ => by
    obtain ⟨n, rfl⟩ : ∃ q, n = q + 1 := ⟨n - 1, by omega⟩
    simp only [List.length_nil] at hj
    rw [m_ref6_solver_typ_L2, m_ref6_solver_typ_B2, need_pos (by omega), hks, if_neg (by omega)]; simp
  | x :: pa, j, n, out, hd, hj, hn, hl => by
    obtain ⟨n, rfl⟩ : ∃ q, n = q + 1 := ⟨n - 1, by omega⟩
    simp only [List.length_cons] at hj hn
    have hja : j < ks.length := by omega
    have hxa : ks[j] = x ∧ ks.drop (j + 1) = pa := by rw [List.drop_eq_getElem_cons hja] at hd; exact ⟨(List.cons.inj hd).1, (List.cons.inj hd).2⟩
    rw [List.map_cons, List.flatten_cons, List.length_append] at hl
    rw [m_ref6_solver_typ_L2, m_ref6_solver_typ_B2, need_pos (by omega), hks, if_pos (by omega), need_pos (by omega), need_pos (by omega), gi_nat hja, hxa.1, hself x (by rw [← hxa.1]; exact List.getElem_mem hja) (by omega), bnd1_mk, need_pos (by dsimp only; omega), i64s (by omega)]
    dsimp only
    rw [typrL h0 h1 hks hk9 f hself K pa (j + 1) n (out ++ f x) hxa.2 (by omega) (by omega) (by rw [List.length_append]; omega), List.map_cons, List.flatten_cons, List.append_assoc]
theorem typr_ok {G : List Sd} (hi : HInv (cG G)) (hct : CntOk G) (hl : G.length ≤ 1000000) {rk : Int → Nat} (hr : Rk (cG G) rk) (hrb : ∀ x, rk x ≤ G.length) (m : List (Int × Int)) : ∀ (n : Nat) (x : Int), rk x < n → 0 ≤ x → x < (G.length : Int) → (val0 (cG G) x).length ≤ 1000000 → m_ref6_solver_typ_S n (G, m) x = some (val0 (cG G) x, (G, m))
  | 0, _, h, _, _, _ => by omega
  | n + 1, x, hnn, x0, x1, hlen => by
    obtain ⟨y, e1, _, hy, fy, vy, ry⟩ := sFind hi hl hr hrb m x0 x1
    have hv := val0_root hi vy
    have g : gi G (y : Int) = G[y] := gi_nat hy
    have hy' : y < (cG G).length := by rw [cG_len]; exact hy
    have ca := cG_get hy
    have hform := hi.form y hy'
    have hkids := hi.kids y hy'
    have hrky := (hr y hy').2
    have hfree := val0_free hi hy' (by rw [ca]; exact fy)
    rw [ca] at hform hkids hrky hfree
    dsimp only [hn] at hform hkids hrky hfree
    rw [cG_len] at hkids
    have hk9 := fm_kids hform
    dsimp only at hk9
    have hx : G[y].1 = (G[y].1.1, G[y].1.2.1, (G[y].2.1.length : Int)) := Prod.ext rfl (Prod.ext rfl (hct y hy))
    rw [hv, hfree] at hlen ⊢
    rw [List.length_cons] at hlen
    rw [m_ref6_solver_typ_S, m_ref6_solver_typ_F, e1, bnd1_mk]
    dsimp only
    rw [need_pos (by omega), jn_eq, show (0 : Int) = ((0 : Nat) : Int) from rfl, typrL (self := m_ref6_solver_typ_S n) (G := G) (m := m) (y1 := ((y : Int), (G, m))) (by dsimp only; omega) (by dsimp only; omega) (ks := G[y].2.1) (by dsimp only; rw [g]) (by omega) (val0 (cG G)) (fun k hk hkl => by
        have h1 := hkids k hk
        have h2 := hrky fy k hk
        exact typr_ok hi hct hl hr hrb m n k (by omega) h1.1 h1.2 hkl) _ G[y].2.1 0 FU _ rfl (by omega) (by have := FU_ge; omega) (by simp only [List.length_cons, List.length_nil]; omega), g, ← hx]
    rfl
theorem wNow {G : List Sd} (hi : HInv (cG G)) (hct : CntOk G) (hl : G.length ≤ 1000000) {m : List (Int × Int)} {v : Int} {i : Nat} (hv : lookL m v = some (i : Int)) (hil : i < G.length) (hlen : (val0 (cG G) (i : Int)).length ≤ 1000000) : m_ref6_solver_now (G, m) [(1, v, 0)] = some (val0 (cG G) (i : Int), (G, m)) := by
  have hadd : m_ref6_solver_add (G, m) [(1, v, 0)] = some ((i : Int), (G, m)) := by
    obtain ⟨q, hq⟩ := fuk 1 (by omega)
    unfold m_ref6_solver_add
    rw [hq, m_ref6_solver_add_S, m_ref6_solver_add_F]
    simp only [jn_eq]
    rw [need_pos (by simp), show gi ([(1, v, 0)] : List Nd) 0 = (1, v, 0) from rfl]
    dsimp only
    rw [if_pos rfl, need_pos (by simp), hv, Option.isSome_some, if_pos rfl]
    rfl
  obtain ⟨rk, hr, hrb⟩ := rank_small hi
  rw [cG_len] at hrb
  unfold m_ref6_solver_now m_ref6_solver_typ
  rw [hadd, bnd1_mk]
  dsimp only
  rw [typr_ok hi hct hl hr hrb m FU (i : Int) (by have := hrb (i : Int); have := FU_ge; omega) (by omega) (by omega) hlen, bnd1_mk]
/-! ### sorted -/
theorem gi_mid (A R : List Int) (x : Int) : gi (A ++ x :: R) (A.length : Int) = x := by
  rw [gi_nat (by simp)]
  simp
theorem sortIn (K : List Int → Option (List Int)) : ∀ (i : Nat) (A : List Int) (x : Int) (B C : List Int) (n : Nat), A.length = i → i < n → i ≤ 1000000 → (A ++ B).Pairwise (· ≤ ·) → (∀ b ∈ B, x ≤ b) →
    ∃ D, m_ref6_sorted_L14 K n (A ++ x :: (B ++ C)) (i : Int) = K (D ++ C) ∧ D.Perm (A ++ x :: B) ∧ D.Pairwise (· ≤ ·)
  | 0, A, x, B, C, n, hA, hn, hi, hs, hx => by
    obtain ⟨n, rfl⟩ : ∃ q, n = q + 1 := ⟨n - 1, by omega⟩
    obtain rfl := List.eq_nil_of_length_eq_zero hA
    refine ⟨x :: B, ?_, .refl _, List.pairwise_cons.2 ⟨hx, by simpa using hs⟩⟩
    rw [m_ref6_sorted_L14, m_ref6_sorted_B14]
    simp only [jn_eq]
    rw [if_neg (by omega), if_neg (by simp)]; rfl
  | i + 1, A, x, B, C, n, hA, hn, hi, hs, hx => by
    obtain ⟨n, rfl⟩ : ∃ q, n = q + 1 := ⟨n - 1, by omega⟩
    obtain ⟨A', y, rfl⟩ : ∃ A' y, A = A' ++ [y] := by
      rcases List.eq_nil_or_concat A with rfl | ⟨A', y, h⟩
      · simp at hA
      · exact ⟨A', y, by rw [h, List.concat_eq_append]⟩
    have hA' : A'.length = i := by simpa using hA
    have g1 : gi (A' ++ [y] ++ x :: (B ++ C)) ((i + 1 : Nat) : Int) = x := by rw [← hA]; exact gi_mid _ _ _
    have g2 : gi (A' ++ [y] ++ x :: (B ++ C)) (i : Int) = y := by rw [List.append_assoc, ← hA']; exact gi_mid _ _ _
    have hi1 : i64 (((i + 1 : Nat) : Int) - 1) = (i : Int) := by rw [i64_id (by omega)]; omega
    have hlen : (A' ++ [y] ++ x :: (B ++ C)).length = i + 2 + (B ++ C).length := by simp; omega
    rw [m_ref6_sorted_L14, m_ref6_sorted_B14]
    simp only [jn_eq]
    rw [if_pos (by omega), need_pos (by omega), hi1, need_pos (by omega), g1, g2]
    by_cases hlt : x < y
    · rw [decide_eq_true hlt, if_pos rfl, need_pos (by omega), need_pos (by omega), need_pos (by omega), need_pos (by rw [List.length_set]; omega), Int.toNat_natCast, Int.toNat_natCast]
      have hset : ((A' ++ [y] ++ x :: (B ++ C)).set (i + 1) y).set i x = A' ++ x :: ((y :: B) ++ C) := by
        rw [List.set_append, if_neg (by simp; omega)]
        simp [hA', List.set_append]
      rw [hset]
      have hs' : (A' ++ (y :: B)).Pairwise (· ≤ ·) := by simpa using hs
      obtain ⟨D, d1, d2, d3⟩ := sortIn K i A' x (y :: B) C n hA' (by omega) (by omega) hs' (fun b hb => by
        rcases List.mem_cons.1 hb with rfl | hb
        · omega
        · exact hx b hb)
      refine ⟨D, d1, d2.trans ?_, d3⟩
      rw [List.append_assoc]
      exact List.Perm.append_left _ (List.Perm.swap _ _ _)
    · rw [decide_eq_false hlt, if_neg (by simp)]
      refine ⟨A' ++ [y] ++ x :: B, by simp, .refl _, ?_⟩
      rw [List.pairwise_append] at hs ⊢
      obtain ⟨h1, h2, h3⟩ := hs
      refine ⟨h1, List.pairwise_cons.2 ⟨hx, h2⟩, fun a ha b hb => ?_⟩
      rcases List.mem_cons.1 hb with rfl | hb
      · rw [List.pairwise_append] at h1
        rcases List.mem_append.1 ha with ha | ha
        · have := h1.2.2 a ha y (by simp); omega
        · have : a = y := by simpa using ha
          omega
      · exact h3 a ha b hb
theorem sortOut (K : List Int → Option (List Int)) : ∀ (C D : List Int) (n : Nat), C.length < n → D.length + C.length ≤ 1000000 → D.Pairwise (· ≤ ·) → ∃ r, m_ref6_sorted_L8 K n (D ++ C) (D.length : Int) = K r ∧ r.Perm (D ++ C) ∧ r.Pairwise (· ≤ ·)
  | [], D, n, hn, hl, hs => by
    obtain ⟨n, rfl⟩ : ∃ q, n = q + 1 := ⟨n - 1, by omega⟩
    rw [List.append_nil]
    exact ⟨D, by rw [m_ref6_sorted_L8, m_ref6_sorted_B8, if_neg (by omega)], .refl _, hs⟩
  | x :: C, D, n, hn, hl, hs => by
    obtain ⟨n, rfl⟩ : ∃ q, n = q + 1 := ⟨n - 1, by omega⟩
    simp only [List.length_cons] at hn hl
    obtain ⟨D', d1, d2, d3⟩ := sortIn (fun x3_j470 => m_ref6_sorted_L8 K n x3_j470 (i64 ((D.length : Int) + 1))) D.length D x [] C FU rfl (by have := FU_ge; omega) (by omega) (by simpa using hs) (by simp)
    have hD' : D'.length = D.length + 1 := by rw [d2.length_eq]; simp
    obtain ⟨r, r1, r2, r3⟩ := sortOut K C D' n (by omega) (by omega) d3
    refine ⟨r, ?_, r2.trans ?_, r3⟩
    · rw [m_ref6_sorted_L8, m_ref6_sorted_B8, if_pos (by rw [List.length_append, List.length_cons]; omega), jn_eq]
      rw [List.nil_append] at d1
      rw [d1, i64s (by omega), ← hD', r1]
    · refine (d2.append_right C).trans ?_
      rw [List.append_assoc]; exact .refl _
theorem wSorted {l : List Int} (hl : l.length ≤ 1000000) : ∃ r, m_ref6_sorted l = some r ∧ r.Perm l ∧ r.Pairwise (· ≤ ·) := by
  unfold m_ref6_sorted
  rw [need_pos (by omega), jn_eq]
  cases l with
  | nil =>
    obtain ⟨q, hq⟩ := fuk 1 (by omega)
    exact ⟨[], by rw [hq, m_ref6_sorted_L8, m_ref6_sorted_B8, if_neg (by simp)], .refl _, .nil⟩
  | cons x l =>
    simp only [List.length_cons] at hl
    exact sortOut (fun x => some x) l [x] FU (by have := FU_ge; omega) (by simp; omega) (by simp)
theorem vgo_nd : ∀ {t : List Nd} {out : List Int}, out.Nodup → (vgo out t).Nodup
  | [], _, h => h
  | n :: t, out, h => by
    rw [vgo]
    by_cases h1 : n.1 = 1 ∧ n.2.1 ∉ out
    · rw [if_pos h1]
      exact vgo_nd (List.nodup_append.2 ⟨h, by simp, fun a ha b hb => by rw [List.mem_singleton.1 hb]; exact fun e => h1.2 (e ▸ ha)⟩)
    · rw [if_neg h1]; exact vgo_nd h
end Go.Proofs.YtdfdjgolijckfaaDoor
/- The laws: unifiers make equal; the order of the arguments does not matter. -/
namespace Go.Proofs.YtdfdjgolijckfaaDoor
attribute [local irreducible] FU
theorem rep_sbt {s : List Bd} {A : List Nd} (h : ∀ n ∈ A, fmB n = true) : rep s A = sbt (fun v => (lookL s v).getD [(1, v, 0)]) A := fm_congr (fun n hn => by
  unfold subN asg
  by_cases h1 : n.1 = 1
  · rw [if_pos h1, if_pos h1]
    have h2 := (var_kids (h n hn) h1).1
    dsimp only
    rw [show n = (1, n.2.1, 0) from Prod.ext h1 (Prod.ext rfl h2)]
  · rw [if_neg h1, if_neg h1])
/-- A unifier as Unify answers it. -/
structure Un (p q : List Nd) (s : List Bd) (σ : Int → List Nd) : Prop where
  M : Mgu p q σ
  vd : vdB (sbt σ p) = true
  sb : sbB s = true
  len : s.length ≤ 1024
  get : ∀ v, v ∈ vsN p ∨ v ∈ vsN q → (lookL s v).getD [(1, v, 0)] = σ v
  keys : ∀ v, lookL s v ≠ none → v ∈ vsN p ∨ v ∈ vsN q
theorem Un.app {p q : List Nd} {s : List Bd} {σ : Int → List Nd} (u : Un p q s σ) {t : List Nd} (ht : vdB t = true) (hv : ∀ v ∈ vsN t, v ∈ vsN p ∨ v ∈ vsN q) (h : vdB (sbt σ t) = true) : m_types_Apply s t = some (sbt σ t) := by
  have e : rep s t = sbt σ t := by
    rw [rep_sbt (vd_fm ht)]
    exact sbt_congr (fun v hv' => u.get v (hv v hv'))
  rw [vApply (by have := u.len; unfold maxLen; omega)]
  unfold apR
  rw [e, if_pos ⟨u.sb, ht, h⟩]
/-! ### Which variables -/
theorem has_loop (l : List Int) (hl : l.length ≤ 1000000) (v : Int) : ∀ (u : List Int) (j n : Nat), l.drop j = u → j + u.length = l.length → u.length < n → m_ref6_has_L2 l v (fun _ => some false) n (j : Int) = some (decide (v ∈ u)) ∧ m_help_Has_int_L2 l v (fun _ => some false) n (j : Int) = some (decide (v ∈ u))
  | [], j, n, hd, hj, hn => by
    obtain ⟨n, rfl⟩ : ∃ q, n = q + 1 := ⟨n - 1, by omega⟩
    simp only [List.length_nil] at hj
    exact ⟨by rw [m_ref6_has_L2, m_ref6_has_B2, if_neg (by omega)]; simp, by rw [m_help_Has_int_L2, m_help_Has_int_B2, if_neg (by omega)]; simp⟩
  | x :: u, j, n, hd, hj, hn => by
    obtain ⟨n, rfl⟩ : ∃ q, n = q + 1 := ⟨n - 1, by omega⟩
    simp only [List.length_cons] at hj hn
    have hjl : j < l.length := by omega
    have ha : l[j] = x ∧ l.drop (j + 1) = u := by rw [List.drop_eq_getElem_cons hjl] at hd; exact ⟨(List.cons.inj hd).1, (List.cons.inj hd).2⟩
    obtain ⟨i1, i2⟩ := has_loop l hl v u (j + 1) n ha.2 (by omega) (by omega)
    have hm : ¬ x = v → decide (v ∈ x :: u) = decide (v ∈ u) := fun e => by
      congr 1; rw [List.mem_cons]; exact propext ⟨fun h => h.resolve_left (fun h => e h.symm), .inr⟩
    constructor
    · rw [m_ref6_has_L2, m_ref6_has_B2, if_pos (by omega), need_pos (by omega), gi_nat hjl, ha.1, i64s (by omega), i1]
      by_cases e : x = v
      · subst e; simp
      · rw [if_neg e, hm e]
    · rw [m_help_Has_int_L2, m_help_Has_int_B2, if_pos (by omega), need_pos (by omega), gi_nat hjl, ha.1, i64s (by omega), i2]
      by_cases e : x = v
      · subst e; simp
      · rw [if_neg e, hm e]
theorem wHas (l : List Int) (hl : l.length ≤ 1000000) (v : Int) : m_ref6_has l v = some (decide (v ∈ l)) ∧ m_help_Has_int l v = some (decide (v ∈ l)) := by
  have h := has_loop l hl v l 0 FU rfl (by omega) (by have := FU_ge; omega)
  unfold m_ref6_has m_help_Has_int
  rw [jn_eq, jn_eq]
  exact h
theorem wVarsL {t : List Nd} (hl : t.length ≤ 1000000) (K : List Int → Option (List Int)) : ∀ (u : List Nd) (j n : Nat) (out : List Int), t.drop j = u → j ≤ t.length → u.length < n → out.length ≤ j → m_ref6_Vars_L2 t K n out (j : Int) = K (vgo out u)
  | [], j, 0, _, _, _, h, _ => by simp at h
  | [], j, n + 1, out, hd, hj, _, _ => by
    have := congrArg List.length hd
    simp at this
    rw [m_ref6_Vars_L2, m_ref6_Vars_B2, if_neg (by omega)]; rfl
  | a :: u, j, 0, _, _, _, h, _ => by simp at h
  | a :: u, j, n + 1, out, hd, hj, hn, ho => by
    have hlen := congrArg List.length hd
    simp at hlen
    have hjl : j < t.length := by omega
    have ha : t[j] = a ∧ t.drop (j + 1) = u := by rw [List.drop_eq_getElem_cons hjl] at hd; exact ⟨(List.cons.inj hd).1, (List.cons.inj hd).2⟩
    rw [m_ref6_Vars_L2, m_ref6_Vars_B2, if_pos (by omega)]
    simp only [jn_eq]
    rw [need_pos (by omega), gi_nat hjl, ha.1, vgo, i64s (by omega)]
    by_cases h1 : a.1 = 1
    · rw [if_pos h1, need_pos (by omega), (wHas out (by omega) a.2.1).1, bnd1_mk]
      by_cases h2 : a.2.1 ∈ out
      · rw [decide_eq_true h2, if_neg (by simp), if_neg (fun h => h.2 h2)]
        exact wVarsL hl K u (j + 1) n out ha.2 (by omega) (by simp at hn; omega) (by omega)
      · rw [decide_eq_false h2, if_pos (by simp), if_pos ⟨h1, h2⟩, need_pos (by omega), need_pos (by simp; omega)]
        exact wVarsL hl K u (j + 1) n _ ha.2 (by omega) (by simp at hn; omega) (by simp; omega)
    · rw [if_neg h1, if_neg (by simp), if_neg (fun h => h1 h.1)]
      exact wVarsL hl K u (j + 1) n out ha.2 (by omega) (by simp at hn; omega) (by omega)
theorem wVars {t : List Nd} (hl : t.length ≤ 1000000) : m_ref6_Vars t = some (vrs t) := by
  unfold m_ref6_Vars
  rw [jn_eq, show (0 : Int) = ((0 : Nat) : Int) from rfl, wVarsL hl _ t 0 FU [] rfl (Nat.zero_le _) (by have := FU_ge; omega) (by simp)]
end Go.Proofs.YtdfdjgolijckfaaDoor
/- Both ways of unifying, for whatever nodes. -/
namespace Go.Proofs.YtdfdjgolijckfaaDoor
attribute [local irreducible] FU
theorem Mgu.swap {p q : List Nd} {σ : Int → List Nd} (h : Mgu p q σ) : Mgu q p σ :=
  ⟨h.tr, h.eq.symm, fun τ hτ he v hv => h.gen τ hτ he.symm v hv.symm, fun v hv w hw => by
    obtain ⟨a, b⟩ := h.idem v hv.symm w hw
    exact ⟨a.symm, b⟩, fun v w hv hw e => h.least v w hv.symm hw.symm e⟩
theorem UX.det {p q : List Nd} {s s' : List Bd} {e e' : Int} (h : UX p q s e) (h' : UX p q s' e') : s = s' ∧ e = e' := by
  obtain ⟨k, m1, H1, l, m, H, r1, r2, two, h3⟩ := h
  obtain ⟨k', m1', H1', l', m', H', r1', r2', _, h3'⟩ := h'
  rw [r1] at r1'
  have a := Option.some.inj r1'
  obtain rfl : k = k' := congrArg (fun z : RR => z.1) a
  obtain rfl : m1 = m1' := congrArg (fun z : RR => z.2.2.1) a
  obtain rfl : H1 = H1' := congrArg (fun z : RR => z.2.2.2) a
  rw [r2] at r2'
  have b := Option.some.inj r2'
  obtain rfl : l = l' := congrArg (fun z : RR => z.1) b
  obtain rfl : m = m' := congrArg (fun z : RR => z.2.2.1) b
  obtain rfl : H = H' := congrArg (fun z : RR => z.2.2.2) b
  have hno : ∀ {e : Int} {σ : Int → List Nd}, EC (Sol H) k l e → Mgu p q σ → False := fun ec M => by
    obtain ⟨val, hS, a1, a2, _⟩ := two.ex M.tr
    exact ec.no val hS (by rw [a1, a2, M.eq])
  rcases h3 with ⟨s0, ec⟩ | ⟨σ, M, h3⟩
  · rcases h3' with ⟨s0', ec'⟩ | ⟨σ', M', _⟩
    · exact ⟨by rw [s0, s0'], ec.det (fun _ _ => ⟨rfl, rfl⟩) ec'⟩
    · exact (hno ec M').elim
  · rcases h3' with ⟨s0', ec'⟩ | ⟨σ', M', h3'⟩
    · exact (hno ec' M).elim
    · have hu := M.uniq M'.swap
      have hp : sbt σ p = sbt σ' p := M.apply_eq M'.swap
      rcases h3 with ⟨v, s0, e0⟩ | ⟨v, e0, sr, lk⟩
      · rcases h3' with ⟨v', s0', e0'⟩ | ⟨v', _⟩
        · exact ⟨by rw [s0, s0'], by rw [e0, e0']⟩
        · rw [← hp, v] at v'; cases v'
      · rcases h3' with ⟨v', _⟩ | ⟨v', e0', sr', lk'⟩
        · rw [← hp, v] at v'; cases v'
        · refine ⟨srk_ext sr sr' (fun w => ?_), by rw [e0, e0']⟩
          refine Option.ext (fun t => ?_)
          rw [lk, lk']
          constructor
          · rintro ⟨a, b, c⟩; rw [hu w a] at b c; exact ⟨a, b, c⟩
          · rintro ⟨a, b, c⟩; rw [← hu w a] at b c; exact ⟨a, b, c⟩
/-- The bindings that the reference keeps. -/
def fb (σ : Int → List Nd) (r : List Int) : List Bd := (r.filter (fun v => decide (gi (σ v) 0 ≠ (1, v, 0)))).map (fun v => (v, σ v))
theorem fb_srk {σ : Int → List Nd} {r : List Int} (h : r.Pairwise (· < ·)) : SrK (fb σ r) := by
  rw [SrK, fb, List.pairwise_map]
  exact (h.filter _).imp (fun h => h)
theorem fb_look {σ : Int → List Nd} {r : List Int} (h : r.Pairwise (· < ·)) {v : Int} {t : List Nd} : lookL (fb σ r) v = some t ↔ v ∈ r ∧ gi (σ v) 0 ≠ (1, v, 0) ∧ t = σ v := by
  constructor
  · intro hl
    obtain ⟨w, hw, e⟩ := List.mem_map.1 (lookL_mem hl)
    obtain ⟨h1, h2⟩ := List.mem_filter.1 hw
    have e1 : w = v := congrArg Prod.fst e
    have e2 : σ w = t := congrArg Prod.snd e
    subst e1
    exact ⟨h1, of_decide_eq_true h2, e2.symm⟩
  · rintro ⟨h1, h2, rfl⟩
    exact mem_lookL (fb_srk h).nd (List.mem_map.2 ⟨v, List.mem_filter.2 ⟨h1, decide_eq_true h2⟩, rfl⟩)
theorem wUniL {G : List Sd} (hi : HInv (cG G)) (hct : CntOk G) (hl : G.length ≤ 1000000) {m : List (Int × Int)} {σ : Int → List Nd} {r : List Int} (hr5 : r.length ≤ 1000000) (hv : ∀ v ∈ r, ∃ i : Nat, lookL m v = some (i : Int) ∧ i < G.length ∧ val0 (cG G) (i : Int) = σ v ∧ (σ v).length ≤ 1000000 ∧ 0 < (σ v).length) (K : List Bd → Option (List Bd × Int)) :
    ∀ (pa : List Int) (j n : Nat) (acc : List Bd), r.drop j = pa → j + pa.length = r.length → pa.length < n → acc.length ≤ j → m_ref6_Unify_L2 r K n G m acc (j : Int) = K (acc ++ fb σ pa)
  | [], j, n, acc, hd, hj, hn, ha => by
    obtain ⟨n, rfl⟩ : ∃ q, n = q + 1 := ⟨n - 1, by omega⟩
    simp only [List.length_nil] at hj
    rw [m_ref6_Unify_L2, m_ref6_Unify_B2, if_neg (by omega)]; simp [fb]
  | v :: pa, j, n, acc, hd, hj, hn, ha => by
    obtain ⟨n, rfl⟩ : ∃ q, n = q + 1 := ⟨n - 1, by omega⟩
    simp only [List.length_cons] at hj hn
    have hja : j < r.length := by omega
    have hxa : r[j] = v ∧ r.drop (j + 1) = pa := by rw [List.drop_eq_getElem_cons hja] at hd; exact ⟨(List.cons.inj hd).1, (List.cons.inj hd).2⟩
    obtain ⟨i, h1, h2, h3, h4, h5⟩ := hv v (by rw [← hxa.1]; exact List.getElem_mem hja)
    rw [m_ref6_Unify_L2, m_ref6_Unify_B2, if_pos (by omega)]
    simp only [jn_eq]
    rw [need_pos (by omega), gi_nat hja, hxa.1, make0, bnd1_mk, wNow hi hct hl h1 h2 (by rw [h3]; exact h4), bnd1_mk, h3]
    dsimp only
    rw [need_pos (by omega), need_pos (by omega), i64s (by omega)]
    by_cases hg : gi (σ v) 0 = (1, v, 0)
    · rw [if_neg (fun h => h hg), wUniL hi hct hl hr5 hv K pa (j + 1) n acc hxa.2 (by omega) (by omega) (by omega), fb, fb, List.filter_cons_of_neg (by simp [hg])]
    · rw [if_pos hg, need_pos (by omega), need_pos (by simp; omega), wUniL hi hct hl hr5 hv K pa (j + 1) n _ hxa.2 (by omega) (by omega) (by simp; omega), fb, fb, List.filter_cons_of_pos (by simp [hg]), List.map_cons, List.append_assoc]
      rfl
theorem tr_hd {d : Nat} {t : List Nd} (h : Tr d t) {v : Int} : gi t 0 ≠ (1, v, 0) ↔ t ≠ [(1, v, 0)] := by
  match d, h with
  | 0, h => exact h.elim
  | d + 1, ⟨k, mm, As, hA, hf, _⟩ =>
    subst hA
    refine not_congr ⟨fun h => ?_, fun h => ?_⟩
    · have h1 : ((k, mm, (As.length : Int)) : Nd) = (1, v, 0) := h
      have h2 : (As.length : Int) = 0 := congrArg (fun z : Nd => z.2.2) h1
      obtain rfl := List.eq_nil_of_length_eq_zero (show As.length = 0 by omega)
      rw [h1]; rfl
    · exact (List.cons.inj h).1
theorem wUnify {p q : List Nd} (hp : vdB p = true) (hq : vdB q = true) : ∃ s e, m_ref6_Unify p q = some (s, e) ∧ UX p q s e := by
  have tp := vd_tr.1 hp
  have tq := vd_tr.1 hq
  obtain ⟨k, m1, H1, l, m, H, e1, e2, two⟩ := two_read tp.1 tq.1 (by omega) (by omega)
  obtain ⟨k', m1', G1, a1, c1, r1, i1, l1⟩ := sAdd 64 FU (by have := FU_ge; omega) p [] [] tp.1 tp.2 rinv_nil (fun i h => by simp at h) (by simp; omega)
  have r1' := r1 []
  dsimp only at r1'
  rw [List.append_nil] at r1'
  have x1 := e1.symm.trans r1'
  have y1 := Option.some.inj x1
  obtain rfl : k = k' := congrArg (fun z : RR => z.1) y1
  obtain rfl : m1 = m1' := congrArg (fun z : RR => z.2.2.1) y1
  obtain rfl : H1 = cG G1 := congrArg (fun z : RR => z.2.2.2) y1
  rw [List.length_nil] at l1
  obtain ⟨l', m', G, a2, c2, r2, i2, l2⟩ := sAdd 64 FU (by have := FU_ge; omega) q m1 G1 tq.1 tq.2 i1 c1 (by omega)
  have r2' := r2 []
  dsimp only at r2'
  rw [List.append_nil] at r2'
  have x2 := e2.symm.trans r2'
  have y2 := Option.some.inj x2
  obtain rfl : l = l' := congrArg (fun z : RR => z.1) y2
  obtain rfl : m = m' := congrArg (fun z : RR => z.2.2.1) y2
  obtain rfl : H = cG G := congrArg (fun z : RR => z.2.2.2) y2
  have hlen : G.length ≤ 1024 := by omega
  have hi := two.inv.hinv
  have idk := two.idk
  have idl := two.idl
  rw [cG_len] at idk idl
  obtain ⟨e, G2, e3, h0, hne⟩ := vSame2 (m := m) hi two.inv.ls two.inv.varU c2 (by omega) idk.1 idk.2 idl.1 idl.2
  have hsolve : m_ref6_solver_solve ([], []) p q = some (e, (G2, m)) := by
    unfold m_ref6_solver_solve m_ref6_solver_add
    dsimp only
    rw [a1, bnd1_mk]
    dsimp only
    rw [a2, bnd1_mk]
    dsimp only
    rw [e3, bnd1_mk]
  unfold m_ref6_Unify
  simp only [jn_eq]
  rw [wValid, hp, bnd1_mk, wValid, hq, bnd1_mk]
  simp only [Bool.not_true, Bool.false_eq_true, ↓reduceIte]
  rw [hsolve, bnd1_mk]
  dsimp only
  by_cases he : e = 0
  · subst he
    have rk := h0 rfl
    obtain ⟨M, hk⟩ := two.mgu rk.ok
    have hg2 : G2.length = G.length := rk.gs.1
    have hlook : ∀ v, v ∈ vsN p ∨ v ∈ vsN q → ∃ i : Nat, lookL m v = some (i : Int) ∧ i < G2.length := fun v hv => by
      cases hx : lookL m v with
      | none => exact absurd hx (two.all v hv)
      | some x =>
        obtain ⟨i, g1, g2, _⟩ := two.inv.look v x hx
        rw [cG_len] at g2
        exact ⟨i, by rw [g1], by omega⟩
    have hsg : sbt (fun v => val0 (cG G2) ((lookL m v).getD (-1))) p = sbt (sg m (cG G2)) p := sbt_congr (fun v hv => by
      obtain ⟨i, h1, _⟩ := hlook v (.inl hv)
      rw [sg_some h1, h1]; rfl)
    obtain ⟨T, f1, f2, f3, f4⟩ := wFits (m := m) tp.1 (by omega) tp.2 rk.ok.inv (rk.gs.cnt c2) (fun v hv => hlook v (.inl hv)) (by omega)
    rw [if_neg (by simp), f1, bnd1_mk, hsg]
    dsimp only
    cases hv : vdB (sbt (sg m (cG G2)) p) with
    | false =>
      rw [Bool.not_false, if_pos rfl]
      exact ⟨[], 10, rfl, k, m1, cG G1, l, m, cG G, e1, e2, two, .inr ⟨_, M, .inl ⟨hv, rfl, rfl⟩⟩⟩
    | true =>
      have t2 := vd_tr.1 hv
      rw [Bool.not_true, if_neg (by simp), need_pos (by omega), need_pos (by omega), wVars (by rw [List.length_append]; omega), bnd1_mk]
      have hpart : ∀ v, v ∈ vsN p ∨ v ∈ vsN q → (sg m (cG G2) v).length ≤ 512 ∧ Tr 64 (sg m (cG G2) v) := fun v hv => by
        rcases hv with hv | hv
        · exact ⟨by have := (sbt_lens M.tr p).2 v hv; omega, (tr_parts M.tr tp.1 t2.1).2 v hv⟩
        · have t3 := t2
          rw [M.eq] at t3
          exact ⟨by have := (sbt_lens M.tr q).2 v hv; omega, (tr_parts M.tr tq.1 t3.1).2 v hv⟩
      have hmem : ∀ {v : Int}, v ∈ vrs (p ++ q) ↔ v ∈ vsN p ∨ v ∈ vsN q := fun {v} => by rw [vrs_mem, vsN_app, List.mem_append]
      have hvl : (vrs (p ++ q)).length ≤ 1024 := by have := vgo_len (p ++ q) []; simp at this; unfold vrs; omega
      obtain ⟨r, s1, s2, s3⟩ := wSorted (l := vrs (p ++ q)) (by omega)
      have hnd : r.Nodup := s2.nodup_iff.2 (vgo_nd .nil)
      have hlt : r.Pairwise (· < ·) := (s3.and (List.nodup_iff_pairwise_ne.1 hnd)).imp (fun h => by omega)
      have hrm : ∀ {v : Int}, v ∈ r ↔ v ∈ vsN p ∨ v ∈ vsN q := fun {v} => by rw [s2.mem_iff]; exact hmem
      rw [s1, bnd1_mk, show (0 : Int) = ((0 : Nat) : Int) from rfl, wUniL f2 f3 (by omega) (σ := sg m (cG G2)) (r := r) (by rw [s2.length_eq]; omega) (fun v hv => by
        obtain ⟨i, h1, h2⟩ := hlook v (hrm.1 hv)
        refine ⟨i, h1, by rw [List.length_append]; omega, ?_, by have := (hpart v (hrm.1 hv)).1; omega, (hpart v (hrm.1 hv)).2.pos⟩
        rw [sg_some h1, cG_app]
        rw [cG_app] at f2
        exact val0_app rk.ok.inv f2 (by omega) (by rw [cG_len]; omega)) _ r 0 FU [] rfl (by omega) (by rw [s2.length_eq]; have := FU_ge; omega) (by simp), List.nil_append]
      refine ⟨fb (sg m (cG G2)) r, 0, rfl, k, m1, cG G1, l, m, cG G, e1, e2, two, .inr ⟨_, M, .inr ⟨hv, rfl, fb_srk hlt, fun v t => ?_⟩⟩⟩
      rw [fb_look hlt, hrm]
      refine and_congr_right fun h => and_congr (tr_hd (hpart v h).2) .rfl
  · rw [if_pos he]
    exact ⟨[], e, rfl, k, m1, cG G1, l, m, cG G, e1, e2, two, .inl ⟨rfl, hne he⟩⟩
theorem unify_bad {p q : List Nd} (h : ¬ (vdB p = true ∧ vdB q = true)) : m_types_Unify p q = some ([], 1) ∧ m_ref6_Unify p q = some ([], 1) := by
  unfold m_types_Unify m_ref6_Unify
  simp only [jn_eq]
  rw [vValid, bnd1_mk, wValid, bnd1_mk]
  cases hp : vdB p with
  | false => simp
  | true =>
    cases hq : vdB q with
    | false => simp [vValid, wValid, hq, bnd1_mk]
    | true => exact absurd ⟨hp, hq⟩ h
theorem unify_all (p q : List Nd) : ∃ s e, m_types_Unify p q = some (s, e) ∧ m_ref6_Unify p q = some (s, e) ∧ m_help_SameTypes s s = some true := by
  by_cases h : vdB p = true ∧ vdB q = true
  · obtain ⟨s, e, h1, h2, h3, h4⟩ := vUnify h.1 h.2
    obtain ⟨s', e', w1, w2⟩ := wUnify h.1 h.2
    obtain ⟨rfl, rfl⟩ := h4.det w2
    refine ⟨s, e, h1, w1, ?_⟩
    by_cases he : e = 0
    · obtain ⟨σ, _, _, sb, sl, _⟩ := h3 he
      exact vSame s (by omega) (fun x hx => vdB_len ((sbC_spec sb).2.1 x hx))
    · rw [(h2 he).1]; exact vSame [] (by simp) (by simp)
  · obtain ⟨h1, h2⟩ := unify_bad h
    exact ⟨[], 1, h1, h2, vSame [] (by simp) (by simp)⟩
theorem typesUnifyExactly_true (p q : List Nd) (a b : List Int) (_ : p.length ≤ maxLen ∧ ∀ x ∈ p, (Lit.int .i64 x.1).wf = true ∧ (Lit.int .i64 x.2.1).wf = true ∧ (Lit.int .i64 x.2.2).wf = true) (_ : q.length ≤ maxLen ∧ ∀ x ∈ q, (Lit.int .i64 x.1).wf = true ∧ (Lit.int .i64 x.2.1).wf = true ∧ (Lit.int .i64 x.2.2).wf = true) (ha : a.length ≤ maxLen ∧ ∀ x ∈ a, (Lit.int .i64 x).wf = true) (hb : b.length ≤ maxLen ∧ ∀ x ∈ b, (Lit.int .i64 x).wf = true) : m_law7_TypesUnifyExactly p q a b = some true := by
  obtain ⟨p', i1, h1, _, hp⟩ := vTyp (V := 3) (by omega) (by omega) 3 (by omega) (gs_new ha) 4 (by omega)
  obtain ⟨q', i2, h2, _, hq⟩ := vTyp (V := 3) (by omega) (by omega) 3 (by omega) (gs_new hb) 4 (by omega)
  obtain ⟨s, e, u1, u2, u3⟩ := unify_all p q
  obtain ⟨s', e', w1, w2, w3⟩ := unify_all p' q'
  unfold m_law7_TypesUnifyExactly m_gen_New
  simp only [bnd1_mk, h1, h2, u1, u2, u3, w1, w2, w3, jn_eq, awake7, ↓reduceIte, decide_true]
end Go.Proofs.YtdfdjgolijckfaaDoor
/- TypesUnifyExactly: for every input the call returns true, and the arguments read as before. No condition. -/
namespace Go.Proofs.YtdfdjgolijckfaaDoor
open Go.ChangeShapes Go.WideShapes Go.ChangeAt Go.RowKit

theorem o_int : Opens Tryd.prog 3 1 (fun x : Int => [.exact (.int .i64 x)]) (fun _ => 1) (fun x => (Lit.int .i64 x).wf = true) := fun e0 W fuel cs y h => (opens_int Tryd.underlying3) e0 W fuel cs y h
theorem o_api_TypeNode : Opens Tryd.prog 41 3 c_api_TypeNode (fun x => (fun _ => 1) x.1 + (fun _ => 1) x.2.1 + (fun _ => 1) x.2.2) (fun x => (fun x => (Lit.int .i64 x).wf = true) x.1 ∧ (fun x => (Lit.int .i64 x).wf = true) x.2.1 ∧ (fun x => (Lit.int .i64 x).wf = true) x.2.2) := fun e0 W fuel cs y h => (opens_struct3 Tryd.underlying41 (by kernel_rfl) rfl rfl rfl (by kernel_rfl) (by kernel_rfl) (by kernel_rfl) o_int o_int o_int) e0 W fuel cs y h
theorem o_L_api_TypeNode : Opens Tryd.prog 22 1 (fun xs : List (Int × Int × Int) => [.row 3 c_api_TypeNode xs]) (fun xs => szL (fun x => (fun _ => 1) x.1 + (fun _ => 1) x.2.1 + (fun _ => 1) x.2.2) xs + 1) (fun xs => xs.length ≤ maxLen ∧ ∀ x ∈ xs, (fun x => (fun x => (Lit.int .i64 x).wf = true) x.1 ∧ (fun x => (Lit.int .i64 x).wf = true) x.2.1 ∧ (fun x => (Lit.int .i64 x).wf = true) x.2.2) x) := fun e0 W fuel cs y h => (opens_slice Tryd.underlying22 (by kernel_rfl) (by decide) o_api_TypeNode) e0 W fuel cs y h
theorem o_L_int : Opens Tryd.prog 23 1 (fun xs : List Int => [.row 1 c_int xs]) (fun xs => szL (fun _ => 1) xs + 1) (fun xs => xs.length ≤ maxLen ∧ ∀ x ∈ xs, (fun x => (Lit.int .i64 x).wf = true) x) := fun e0 W fuel cs y h => (opens_slice Tryd.underlying23 (by kernel_rfl) (by decide) o_int) e0 W fuel cs y h
theorem door_met (os : Os) (args : Array Value) : laidMetH Tryd.prog Rows.typesUnifyExactlyRow.laid ((World.doorLaid Tryd.prog 400 os).forCall (fun _ _ => 0) ⟨#[], args, []⟩).memory :=
  laidMetH_of_parts3 (fuel := 8) (laidMet_of_run' 8 (by kernel_rfl) (by kernel_rfl)) (by kernel_rfl) (by kernel_rfl)
set_option maxRecDepth 100000 in
theorem typesUnifyExactly_lifted (os : Os) (started : os.Started) (H : Type) (enc : TypeId × Value → H) :
    ReturnsInHanded {} Tryd.checked os 3 .any (fun w args => (Rows.typesUnifyExactlySpec.pre enc Tryd.prog Tryd.f3 Rows.typesUnifyExactlyRow.domain false w args ∧ laidMetH Tryd.prog Rows.typesUnifyExactlyRow.laid w) ∧ sizedMet enc Tryd.prog Tryd.f3 (OpenSpec.ofChange Rows.typesUnifyExactlySpec) false w args) (Rows.typesUnifyExactlySpec.post enc Tryd.prog Tryd.f3 false true false false) := by
  refine returnsInHanded_of_change_and (C := Tryd.checked) (X := fun w _ => laidMetH Tryd.prog Rows.typesUnifyExactlyRow.laid w) (fun _ _ _ hh h => h.of_heap hh) Tryd.own started (by kernel_rfl) Tryd.func3
    (ChangeSpec.witness_shaped (enc := enc) (C := Tryd.checked) (os := os) (X := fun w _ => laidMetH Tryd.prog Rows.typesUnifyExactlyRow.laid w) false (World.doorLaid Tryd.prog 400 os) #[.slice none 0 0, .slice none 0 0, .slice none 0 0, .slice none 0 0] 8 rfl (World.shaped_of_RefB (by kernel_rfl) (by kernel_rfl)) (by kernel_rfl) (by kernel_rfl) (by kernel_rfl) (door_met os _)) ?_
  intro W base args ds gs before hval0 hW _ _ hL _
  have hval : ∀ (j : Nat) t v, Tryd.f3.params[j]? = some t → args[j]? = some v → Value.okWide Tryd.prog W .any base t v := hval0
  have hW' := hW
  obtain ⟨p, q, hA0, hV, rfl, hfz, hnd⟩ := hW
  have hA : DataW.TrodAll enc Tryd.prog W 0 (fun _ => true) true Tryd.f3.params.toList args.toList ds p := hA0
  rw [Tryd.params3] at hA hval
  obtain ⟨v0, vs0, d0, ds0, p0, q0, hargs, rfl, rfl, h0, r0⟩ := trodAll_cons hA
  obtain ⟨v1, vs1, d1, ds1, p1, q1, rfl, rfl, rfl, h1, r1⟩ := trodAll_cons r0
  obtain ⟨v2, vs2, d2, ds2, p2, q2, rfl, rfl, rfl, h2, r2⟩ := trodAll_cons r1
  obtain ⟨v3, vs3, d3, ds3, p3, q3, rfl, rfl, rfl, h3, r3⟩ := trodAll_cons r2
  obtain ⟨rfl, rfl, rfl⟩ := trodAll_nil r3
  obtain rfl : args = #[v0, v1, v2, v3] := by cases args; simp_all
  obtain ⟨rfl, rfl⟩ := trodVars_none hV
  clear hA0
  simp only [List.append_nil] at hW'
  have hlt := hW'.lt
  obtain ⟨x0, qq0, g0, s0⟩ := arg_open o_L_api_TypeNode (plain_slice Tryd.underlying22 (hval 0 22 v0 rfl rfl)) h0
  obtain ⟨x1, qq1, g1, s1⟩ := arg_open o_L_api_TypeNode (plain_slice Tryd.underlying22 (hval 1 22 v1 rfl rfl)) h1
  obtain ⟨x2, qq2, g2, s2⟩ := arg_open o_L_int (plain_slice Tryd.underlying23 (hval 2 23 v2 rfl rfl)) h2
  obtain ⟨x3, qq3, g3, s3⟩ := arg_open o_L_int (plain_slice Tryd.underlying23 (hval 3 23 v3 rfl rfl)) h3
  have htab := tab_laid hL (by kernel_rfl)
  refine (Fun.callT (m_law7_TypesUnifyExactly_ok x0 x1 x2 x3 true (typesUnifyExactly_true x0 x1 x2 x3 qq0 qq1 qq2 qq3)) (vs := [v0, v1, v2, v3]) ⟨g0.1, g1.1, g2.1, g3.1, trivial⟩ htab.2 htab.1).mono fun e W' ⟨he, hb⟩ => ?_
  subst he
  exact ⟨_, rfl, post_of_below (pa := p0 ++ (p1 ++ (p2 ++ (p3 ++ [])))) (pv := []) hW' (fun _ _ _ => trodAll_cons_mk (shut_bool Tryd.underlying4 true) trodAll_mk0)
    (fun sp hsp => trodAll_cons_mk (trod_after (by kernel_rfl) (of_decide_eq_true (by kernel_rfl)) h0 hb (fun x hx => hlt x (by simp [hx])) (fun x hx => by simp [hx]) sp hsp) (trodAll_cons_mk (trod_after (by kernel_rfl) (of_decide_eq_true (by kernel_rfl)) h1 hb (fun x hx => hlt x (by simp [hx])) (fun x hx => by simp [hx]) sp hsp) (trodAll_cons_mk (trod_after (by kernel_rfl) (of_decide_eq_true (by kernel_rfl)) h2 hb (fun x hx => hlt x (by simp [hx])) (fun x hx => by simp [hx]) sp hsp) (trodAll_cons_mk (trod_after (by kernel_rfl) (of_decide_eq_true (by kernel_rfl)) h3 hb (fun x hx => hlt x (by simp [hx])) (fun x hx => by simp [hx]) sp hsp) (trodAll_mk0)))))
    (fun _ _ => rfl) (by simp) hb (ok_one (by kernel_rfl) rfl (okWide_bool_mk Tryd.underlying4 true))⟩

theorem typesUnifyExactly_holds : Rows.TypesUnifyExactlySaid :=
  OpenClaim.holds_of_wide 3 Tryd.f3 rfl rfl rfl rfl rfl rfl rfl ⟨rfl, rfl, rfl, rfl, rfl⟩ rfl rfl rfl rfl rfl (by kernel_rfl) Tryd.func3 (by kernel_rfl)
    (of_decide_eq_true (by kernel_rfl)) (by unfold Func.isWrapper; first | (rw [if_pos (by decide +kernel)]; kernel_rfl) | (rw [if_neg (by decide +kernel)]; exact ⟨rfl, rfl⟩))
    (fun os started H enc _ => typesUnifyExactly_lifted os started H enc)

theorem typesUnifyExactly_card_holds : Rows.TypesUnifyExactlyCardSaid :=
  Claim7.holds_tied_plain_at .later [] [.data, .data, .data] true (true, "266afa1125f812094a6acd2f15ec6e17dfc0fe2faf4d68696ad7b3b06d247b04") false
    typesUnifyExactly_holds (fun _ h => by cases h) (by kernel_rfl) (fun _ h => by cases h) typesUnifyExactly_row_tie rfl ⟨rfl, rfl⟩ (by kernel_rfl) rfl
    (fun f fn hf hfn => by
      obtain rfl : f = 3 := Option.some.inj ((show Tryd.prog.funcNamed "cspcheck/cspchecklaw7.TypesUnifyExactly" = some 3 by kernel_rfl).symm.trans hf) |>.symm
      obtain rfl : fn = Tryd.f3 := (Option.some.inj (Tryd.func3.symm.trans hfn)).symm
      exact ⟨by kernel_rfl, fun j t ht => by
        rw [Tryd.params3] at ht
        have hm : t ∈ [22, 22, 23, 23] := by simpa using Array.mem_of_getElem? ht
        have hall : ([22, 22, 23, 23].all fun u => !Tryd.prog.wantsStandIn u) = true := by kernel_rfl
        exact (show Tryd.prog.wantsStandIn t = false by simpa using List.all_eq_true.1 hall t hm)⟩)
    (by kernel_rfl)
end Go.Proofs.YtdfdjgolijckfaaDoor
