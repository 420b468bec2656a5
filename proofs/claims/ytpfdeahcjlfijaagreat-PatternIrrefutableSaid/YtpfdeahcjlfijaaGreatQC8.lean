/- The laws of layer 12. -/
import Derived.Test.YtpfdeahcjlfijaaGreatQC2
import Derived.Test.YtpfdeahcjlfijaaGreatQC4
import Derived.Test.YtpfdeahcjlfijaaGreatQC7
namespace Go.Proofs.YtpfdeahcjlfijaaGreat
attribute [local irreducible] FU

abbrev PV2 (v : Vl) : Prop := PV 2 48 v
theorem PV2.len {v : Vl} (h : PV2 v) : v.length ≤ 1048576 := by have := h.2; omega
theorem gVal2 {l : List Int} {i : Int} (h : GS l i) : ∃ v i', m_gen_Choices_Value (l, i) 2 = some (v, (l, i')) ∧ GS l i' ∧ PV2 v := gValueP 2 (by omega) l i h
theorem gs_new {c : List Int} (hc : c.length ≤ maxLen ∧ ∀ x ∈ c, (Lit.int .i64 x).wf = true) : GS c 0 := ⟨by omega, by omega, by have := hc.1; unfold maxLen at this; omega⟩

theorem OkT.succ {k : Nat} {t : Nd} (h : OkT k t) : OkT (k + 1) t := by
  induction h with | mk hf hk ih => exact .mk hf ih
theorem OkT.le {k j : Nat} {t : Nd} (h : OkT k t) (hj : k ≤ j) : OkT j t := by
  obtain ⟨d, rfl⟩ : ∃ d, j = k + d := ⟨j - k, by omega⟩
  clear hj
  induction d with
  | zero => exact h
  | succ d ih => exact ih.succ
theorem mts_congr {f g : Nd → Vl → Option (List Vl)} : ∀ {kids : List Nd} {ps : List Vl}, (∀ x ∈ kids, ∀ y, f x y = g x y) → mts f kids ps = mts g kids ps
  | [], [], _ => by simp only [mts]
  | [], _ :: _, _ => by simp only [mts]
  | _ :: _, [], _ => by simp only [mts]
  | x :: xs, y :: ys, h => by
    simp only [mts]
    rw [h x (by simp) y, mts_congr (kids := xs) (ps := ys) (fun z hz => h z (by simp [hz]))]
theorem mt_succ : ∀ {k : Nat} {t : Nd} (v : Vl), OkT k t → mt (k + 1) t v = mt k t v
  | 0, _, _, h => absurd h not_ok0
  | k + 1, .nil, _, h => by cases h
  | k + 1, .mk op n kids, v, h => by
    cases h with | mk hf hk =>
    rw [mt, mt]
    have e : ∀ ps, mts (mt (k + 1)) kids ps = mts (mt k) kids ps := fun ps => mts_congr fun x hx y => mt_succ y (hk x hx)
    simp only [e]
theorem mt_le {k j : Nat} {t : Nd} (v : Vl) (h : OkT k t) (hj : k ≤ j) : mt j t v = mt k t v := by
  obtain ⟨d, rfl⟩ : ∃ d, j = k + d := ⟨j - k, by omega⟩
  clear hj
  induction d with
  | zero => rfl
  | succ d ih => rw [← Nat.add_assoc, mt_succ v (h.le (by omega)), ih]
def IrrT (k : Nat) (t : Nd) : Prop := OkT (k + 1) t ∧ (ser t).all irrC = true ∧ (ser t).length ≤ 1 + 2 * k ∧ ∀ v, ∃ m, mt (k + 1) t v = some m
def TupT (k : Nat) (t : Nd) : Prop := OkT (k + 1) t ∧ (ser t).all irrC = true ∧ (ser t).length ≤ 1 + 20 * k
theorem irr_leaf (z : Int) (h : z = 0 ∨ z = 1) (k : Nat) : OkT (k + 1) (.mk (30 + z) 0 []) ∧ (ser (.mk (30 + z) 0 [])).all irrC = true ∧ (ser (.mk (30 + z) 0 [])).length = 1 ∧ ∀ v, ∃ m, mt (k + 1) (.mk (30 + z) 0 []) v = some m := by
  refine ⟨.mk ?_ (fun x hx => by cases hx), ?_, ?_, fun v => ?_⟩
  · rcases h with rfl | rfl <;> decide
  · rw [leaf_ser]; rcases h with rfl | rfl <;> decide
  · rw [leaf_ser]; rfl
  · rw [mt]
    rcases h with rfl | rfl
    · exact ⟨[v], by rw [if_pos (by decide)]⟩
    · exact ⟨[], by rw [if_neg (by decide), if_pos (by decide)]⟩
theorem both_irr {k : Nat} {t s : Nd} (h : IrrT k t) (hs : OkT (k + 1) s ∧ (ser s).all irrC = true ∧ (ser s).length = 1 ∧ ∀ v, ∃ m, mt (k + 1) s v = some m) : IrrT (k + 1) (.mk 40 0 [t, s]) := by
  obtain ⟨h1, h2, h3, h4⟩ := h
  obtain ⟨g1, g2, g3, g4⟩ := hs
  refine ⟨.mk (by simp [fmB]) (fun x hx => ?_), ?_, ?_, fun v => ?_⟩
  · simp at hx
    rcases hx with rfl | rfl
    · exact h1
    · exact g1
  · rw [ser_mk, List.all_cons, sers_cons, sers_cons, sers_nil, List.all_append, List.all_append, h2, g2]; rfl
  · rw [ser_mk, sers_cons, sers_cons, sers_nil]; simp; omega
  · obtain ⟨a, ha⟩ := h4 v
    obtain ⟨b, hb⟩ := g4 v
    refine ⟨a ++ (b ++ []), ?_⟩
    rw [mt, if_neg (by decide), if_neg (by decide), if_neg (by decide), if_neg (by decide), subP, if_neg (by decide), if_neg (by decide), if_neg (by decide), if_neg (by decide), if_neg (by decide), if_pos rfl]
    simp only [mts, ha, hb]
theorem tup_irr {k : Nat} {t s : Nd} (h : IrrT (k + 1) t) (hs : TupT (2 * k) s) (hk : k ≤ 8) : TupT (2 * k + 2) (.mk 34 0 [t, s]) := by
  obtain ⟨h1, h2, h3, _⟩ := h
  obtain ⟨g1, g2, g3⟩ := hs
  refine ⟨.mk (by simp [fmB]) (fun x hx => ?_), ?_, ?_⟩
  · simp at hx
    rcases hx with rfl | rfl
    · exact h1.le (by omega)
    · exact g1.le (by omega)
  · rw [ser_mk, List.all_cons, sers_cons, sers_cons, sers_nil, List.all_append, List.all_append, h2, g2]; rfl
  · rw [ser_mk, sers_cons, sers_cons, sers_nil]; simp; omega
theorem node2 (op n : Int) (t s : Nd) (h : (ser t).length + (ser s).length ≤ 1000) : m_law12_node op n [ser t, ser s] = some (ser (.mk op n [t, s])) := by
  rw [ser_node]; exact lNode op n _ (by simp) (by simp; omega)
theorem node0 (op n : Int) : m_law12_node op n ([] : List (List Cd)) = some (ser (.mk op n [])) := by
  rw [ser_node]; exact lNode op n _ (by simp) (by simp)
theorem irr_match {k : Nat} {t : Nd} (h : IrrT k t) (hk : k ≤ 60) (v : Vl) : ∃ m, m_pattern_Match (ser t) v = some (m, vldB v) := by
  obtain ⟨h1, h2, h3, h4⟩ := h
  have hM := pMatchW (ser t) v (by omega)
  unfold matchW at hM
  rw [parse_some.2 ⟨rfl, h1.le (by omega), by omega⟩] at hM
  obtain ⟨m, hm⟩ := h4 v
  cases hv : vldB v with
  | false => exact ⟨[], by rw [hM]; simp [hv]⟩
  | true =>
    refine ⟨m, ?_⟩
    rw [hM]
    simp only [hv, if_true]
    rw [mt_le v h1 (by omega), hm]
theorem irr_true {t : Nd} {k : Nat} (h : OkT k t) (hk : k ≤ 64) (hl : (ser t).length ≤ 8192) (hi : (ser t).all irrC = true) : m_pattern_Irrefutable (ser t) = some true := by
  rw [pIrrW _ (by omega), irrW, parse_some.2 ⟨rfl, h.le hk, hl⟩, hi]; rfl
theorem patternIrrefutable_true (c : List Int) (raw0 : Vl) (hc : c.length ≤ maxLen ∧ ∀ x ∈ c, (Lit.int .i64 x).wf = true) (_ : raw0.length ≤ maxLen) : m_law12_PatternIrrefutable c raw0 = some true := by
  have hFU := FU_ge
  unfold m_law12_PatternIrrefutable m_gen_New
  simp only [bnd1_mk, node0]
  simp only [jn_eq]
  obtain ⟨y, i1, e1, g1, y0, y1⟩ := gNext (gs_new hc) (n := 4) (by omega) (by omega)
  rw [e1, bnd1_mk]
  have loop : ∀ (K : List Int → Int → List Cd → List Cd → Option Bool) (m n : Nat) (i : Int) (k : Nat) (t s : Nd), m < n → GS c i → IrrT k t → TupT (2 * k) s → k + m ≤ 4 →
      ∃ i' k' t' s', m_law12_PatternIrrefutable_L2 K n c i (ser t) (ser s) (m : Int) = K c i' (ser t') (ser s') ∧ GS c i' ∧ IrrT k' t' ∧ TupT (2 * k') s' ∧ k' ≤ 4 := by
    intro K m
    induction m with
    | zero =>
      intro n i k t s hn hg ht hs hk
      obtain ⟨n, rfl⟩ : ∃ j, n = j + 1 := ⟨n - 1, by omega⟩
      exact ⟨i, k, t, s, by rw [m_law12_PatternIrrefutable_L2, m_law12_PatternIrrefutable_B2, if_neg (by omega)], hg, ht, hs, by omega⟩
    | succ m ih =>
      intro n i k t s hn hg ht hs hk
      obtain ⟨n, rfl⟩ : ∃ j, n = j + 1 := ⟨n - 1, by omega⟩
      obtain ⟨z, i2, e2, g2, z0, z1⟩ := gNext hg (n := 2) (by omega) (by omega)
      have hlf := irr_leaf z (by omega) k
      have ht' := both_irr ht hlf
      have hs' := tup_irr ht' hs (by omega)
      rw [m_law12_PatternIrrefutable_L2, m_law12_PatternIrrefutable_B2, if_pos (by omega), e2, bnd1_mk]
      simp only []
      have l1 := ht.2.2.1
      have l2 := ht'.2.2.1
      have l3 := hs.2.2
      have l4 := hlf.2.2.1
      rw [i64_id (x := 30 + z) (by omega), node0, bnd1_mk, node2 40 0 t _ (by omega), bnd1_mk, node2 34 0 _ s (by omega), bnd1_mk, show i64 (((m + 1 : Nat) : Int) - 1) = (m : Int) from by rw [i64_id (by omega)]; omega]
      exact ih n i2 (k + 1) _ _ (by omega) g2 ht' (by rw [show 2 * (k + 1) = 2 * k + 2 by omega]; exact ⟨hs'.1.le (by omega), hs'.2.1, by have := hs'.2.2; omega⟩) (by omega)
  have hv0 := irr_leaf 0 (.inl rfl) 0
  rw [show (30 : Int) + 0 = 30 from rfl] at hv0
  obtain ⟨i2, k, t, s, hl, g2, ht, hs, hk⟩ := loop _ y.toNat FU i1 0 (.mk 30 0 []) (.mk 30 0 []) (by omega) g1 ⟨hv0.1, hv0.2.1, by rw [hv0.2.2.1]; omega, hv0.2.2.2⟩ ⟨hv0.1, hv0.2.1, by rw [hv0.2.2.1]; omega⟩ (by omega)
  rw [show ((y.toNat : Nat) : Int) = y by omega] at hl
  rw [hl]
  obtain ⟨v, i3, e3, g3, pv⟩ := gVal2 g2
  obtain ⟨w, i4, e4, g4, pw⟩ := gVal2 g3
  simp only [e3, bnd1_mk, e4]
  have hvd : Vd v := ⟨pv.1.le (by omega), by have := pv.2; omega⟩
  have hwd : Vd w := ⟨pw.1.le (by omega), by have := pw.2; omega⟩
  obtain ⟨c1, c2, c3, c4, c5⟩ := comp_ok (c := 3) (l := [v, w]) (k := 2) (by decide) (by omega) (fun x hx => by
    simp at hx
    rcases hx with rfl | rfl
    · exact pv.1
    · exact pw.1) (by simp) (by have := pv.2; have := pw.2; simp; omega) rfl
  have hmk : m_ref9_Make 3 [v, w] = some (raw 3 [v, w]) := by
    have := rMake 3 (by decide) [v, w] (by simp)
    rw [show ((3 : UInt8).toNat : Int) = 3 from rfl, c1] at this
    exact this
  obtain ⟨h1, h2, h3, h4⟩ := ht
  obtain ⟨m1, q1⟩ := irr_match (v := v) ⟨h1, h2, h3, h4⟩ (by omega)
  obtain ⟨m2, q2⟩ := irr_match (v := raw0) ⟨h1, h2, h3, h4⟩ (by omega)
  rw [hmk, bnd1_mk, q1, bnd1_mk, q2, bnd1_mk, node2 34 0 t _ (by rw [hv0.2.2.1]; omega), bnd1_mk]
  obtain ⟨mv, hmv⟩ := h4 v
  have hok : OkT (k + 2) (.mk 34 0 [t, .mk 30 0 []]) := .mk (by simp [fmB]) (fun x hx => by
    simp at hx
    rcases hx with rfl | rfl
    · exact h1
    · exact hv0.1.le (by omega))
  have hlen : (ser (.mk 34 0 [t, .mk 30 0 []])).length ≤ 20 := by
    rw [ser_mk, sers_cons, sers_cons, sers_nil]; simp; rw [hv0.2.2.1]; omega
  have hM := pMatchW (ser (.mk 34 0 [t, .mk 30 0 []])) (raw 3 [v, w]) (by omega)
  unfold matchW at hM
  rw [parse_some.2 ⟨rfl, hok.le (by omega), by omega⟩] at hM
  simp only [vldB_iff.2 c5, if_true] at hM
  have hmt : mt 64 (.mk 34 0 [t, .mk 30 0 []]) (raw 3 [v, w]) = some (mv ++ ([w] ++ [])) := by
    rw [mt_le _ hok (by omega), mt, if_neg (by decide), if_neg (by decide), if_neg (by decide), if_neg (by decide), subP, if_pos rfl, if_pos (by rw [c4]; rfl), c3]
    have e30 : mt (k + 1) (.mk 30 0 []) w = some [w] := by rw [mt, if_pos rfl]
    simp only [mts, hmv, e30]
  rw [hmt] at hM
  rw [hM, bnd1_mk, awake12, bnd1_mk]
  simp only [if_true]
  rw [irr_true h1 (by omega) (by omega) h2, bnd1_mk, if_pos rfl, irr_true hs.1 (by omega) (by have := hs.2.2; omega) hs.2.1, bnd1_mk, if_pos rfl, if_pos (vldB_iff.2 hvd), rValid, bnd1_mk, if_pos rfl]
  have hml : (mv ++ ([w] ++ [])).length = mv.length + 1 := by simp
  have hmvl := mt_len hmv
  rw [hml, if_pos (by omega), i64_id (by omega), need_pos (by omega), show ((mv.length + 1 : Nat) : Int) - 1 = ((mv.length : Nat) : Int) by omega, gi_nat (by omega)]
  simp
end Go.Proofs.YtpfdeahcjlfijaaGreat
/- PatternIrrefutable: for every input the call returns true, and the arguments read as before. No condition. -/
namespace Go.Proofs.YtpfdeahcjlfijaaGreat
open Go.ChangeShapes Go.WideShapes Go.ChangeAt Go.RowKit

theorem o_int : Opens Tryz.prog 3 1 (fun x : Int => [.exact (.int .i64 x)]) (fun _ => 1) (fun x => (Lit.int .i64 x).wf = true) := fun e0 W fuel cs y h => (opens_int Tryz.underlying3) e0 W fuel cs y h
theorem o_L_int : Opens Tryz.prog 22 1 (fun xs : List Int => [.row 1 c_int xs]) (fun xs => szL (fun _ => 1) xs + 1) (fun xs => xs.length ≤ maxLen ∧ ∀ x ∈ xs, (fun x => (Lit.int .i64 x).wf = true) x) := fun e0 W fuel cs y h => (opens_slice Tryz.underlying22 (by kernel_rfl) (by decide) o_int) e0 W fuel cs y h
theorem o_api_Value : Opens Tryz.prog 30 1 (fun x : List UInt8 => [.exact (.string (bs x))]) (fun x => x.length + 1) (fun x => x.length ≤ maxLen) := fun e0 W fuel cs y h => (opens_str Tryz.underlying30) e0 W fuel cs y h
set_option maxRecDepth 100000 in
theorem patternIrrefutable_lifted (os : Os) (started : os.Started) (H : Type) (enc : TypeId × Value → H) :
    ReturnsInHanded {} Tryz.checked os 5 .any (Rows.patternIrrefutableSpec.pre6 enc Tryz.prog Tryz.f5 Rows.patternIrrefutableRow.domain false) (Rows.patternIrrefutableSpec.post enc Tryz.prog Tryz.f5 false true false false) := by
  refine returnsInHanded_of_change (C := Tryz.checked) Tryz.own started (by kernel_rfl) Tryz.func5
    (ChangeSpec.witness6 (enc := enc) (C := Tryz.checked) false ⟨#[], #[.slice none 0 0, .string ⟨#[]⟩], []⟩ 8 (by kernel_rfl) (by kernel_rfl) (by kernel_rfl) (by kernel_rfl)) ?_
  intro W base args ds gs before hval0 hW hcnd _
  have hval : ∀ (j : Nat) t v, Tryz.f5.params[j]? = some t → args[j]? = some v → Value.okWide Tryz.prog W .any base t v := hval0
  have hW' := hW
  obtain ⟨p, q, hA0, hV, rfl, hfz, hnd⟩ := hW
  have hA : DataW.TrodAll enc Tryz.prog W 0 (fun _ => true) true Tryz.f5.params.toList args.toList ds p := hA0
  rw [Tryz.params5] at hA hval
  obtain ⟨v0, vs0, d0, ds0, p0, q0, hargs, rfl, rfl, h0, r0⟩ := trodAll_cons hA
  obtain ⟨v1, vs1, d1, ds1, p1, q1, rfl, rfl, rfl, h1, r1⟩ := trodAll_cons r0
  obtain ⟨rfl, rfl, rfl⟩ := trodAll_nil r1
  obtain rfl : args = #[v0, v1] := by cases args; simp_all
  obtain ⟨rfl, rfl⟩ := trodVars_none hV
  clear hA0
  simp only [List.append_nil] at hW'
  have hlt := hW'.lt
  obtain ⟨x0, qq0, g0, s0⟩ := arg_open o_L_int (plain_slice Tryz.underlying22 (hval 0 22 v0 rfl rfl)) h0
  obtain ⟨x1, qq1, g1, s1⟩ := arg_open o_api_Value (plain_str Tryz.underlying30 (hval 1 30 v1 rfl rfl)) h1
  refine (Pure.call (m_law12_PatternIrrefutable_ok x0 x1 true (patternIrrefutable_true x0 x1 qq0 qq1)) (vs := [v0, v1]) ⟨g0.1, g1.1, trivial⟩).mono fun e W' ⟨he, hb⟩ => ?_
  subst he
  exact ⟨_, rfl, post_of_below (pa := p0 ++ (p1 ++ [])) (pv := []) hW' (fun _ _ _ => trodAll_cons_mk (shut_bool Tryz.underlying4 true) trodAll_mk0)
    (fun sp hsp => trodAll_cons_mk (trod_after (by kernel_rfl) (of_decide_eq_true (by kernel_rfl)) h0 hb (fun x hx => hlt x (by simp [hx])) (fun x hx => by simp [hx]) sp hsp) (trodAll_cons_mk (trod_after (by kernel_rfl) (of_decide_eq_true (by kernel_rfl)) h1 hb (fun x hx => hlt x (by simp [hx])) (fun x hx => by simp [hx]) sp hsp) (trodAll_mk0)))
    (fun _ _ => rfl) (by simp) hb (ok_one (by kernel_rfl) rfl (okWide_bool_mk Tryz.underlying4 true))⟩

theorem patternIrrefutable_holds : Rows.PatternIrrefutableSaid :=
  OpenClaim.holds_of_wide 5 Tryz.f5 rfl rfl rfl rfl rfl rfl rfl ⟨rfl, rfl, rfl, rfl, rfl⟩ rfl rfl rfl rfl rfl (by kernel_rfl) Tryz.func5 (by kernel_rfl)
    (of_decide_eq_true (by kernel_rfl)) (by unfold Func.isWrapper; first | (rw [if_pos (by decide +kernel)]; kernel_rfl) | (rw [if_neg (by decide +kernel)]; exact ⟨rfl, rfl⟩))
    (fun os started H enc _ => patternIrrefutable_lifted os started H enc)

end Go.Proofs.YtpfdeahcjlfijaaGreat
