/- The laws of layer 12. -/
import Derived.Test.YtpfdeahcjlfijaaGreatQA2
import Derived.Test.YtpfdeahcjlfijaaGreatQA4
import Derived.Test.YtpfdeahcjlfijaaGreatQA7
namespace Go.Proofs.YtpfdeahcjlfijaaGreat
attribute [local irreducible] FU

theorem buildW_cases (p : List Cd) (l : List Vl) : (∃ t, parse p = some t ∧ p.all nbC = true ∧ cntV p = l.length ∧ Vd (bd 64 t l).1 ∧ buildW p l = ((bd 64 t l).1, true)) ∨ buildW p l = ([], false) := by
  unfold buildW
  cases hp : parse p with
  | none => exact .inr rfl
  | some t =>
    by_cases h : p.all nbC = true ∧ cntV p = l.length ∧ vldB (bd 64 t l).1 = true
    · exact .inl ⟨t, rfl, h.1, h.2.1, vldB_iff.1 h.2.2, by simp only []; rw [if_pos h]⟩
    · right; simp only []; rw [if_neg h]
theorem match_of_build {p : List Cd} {l : List Vl} {t : Nd} (hp : parse p = some t) (hb : p.all nbC = true) (hr : p.all rngC = true) (hc : cntV p = l.length) (hv : Vd (bd 64 t l).1) : matchW p (bd 64 t l).1 = some l := by
  obtain ⟨rfl, hok, _⟩ := parse_some.1 hp
  unfold matchW
  rw [hp]
  simp only [vldB_iff.2 hv, if_true]
  rw [match_build 64 t l hok hb hr (by omega) hv, List.take_of_length_le (by omega)]
abbrev PV2 (v : Vl) : Prop := PV 2 48 v
theorem PV2.len {v : Vl} (h : PV2 v) : v.length ≤ 1048576 := by have := h.2; omega
theorem gVal2 {l : List Int} {i : Int} (h : GS l i) : ∃ v i', m_gen_Choices_Value (l, i) 2 = some (v, (l, i')) ∧ GS l i' ∧ PV2 v := gValueP 2 (by omega) l i h
theorem gs_new {c : List Int} (hc : c.length ≤ maxLen ∧ ∀ x ∈ c, (Lit.int .i64 x).wf = true) : GS c 0 := ⟨by omega, by omega, by have := hc.1; unfold maxLen at this; omega⟩

theorem patternMatchesBuilt_true (c : List Int) (hc : c.length ≤ maxLen ∧ ∀ x ∈ c, (Lit.int .i64 x).wf = true) : m_law12_PatternMatchesBuilt c = some true := by
  have hFU := FU_ge
  unfold m_law12_PatternMatchesBuilt m_gen_New
  simp only [bnd1_mk]
  obtain ⟨t, i1, e1, g1, k1, k2, k3⟩ := gPat3 (gs_new hc)
  rw [e1, bnd1_mk]
  have loop : ∀ (K : List Vl → Option Bool) (m q n : Nat) (i : Int) (out : List Vl), q + m = (ser t).length → m < n → GS c i → out.length ≤ q → (∀ y ∈ out, PV2 y) →
      ∃ out', m_law12_PatternMatchesBuilt_L2 (ser t, (c, i1)) K n c i out (q : Int) = K out' ∧ out'.length ≤ (ser t).length ∧ ∀ y ∈ out', PV2 y := by
    intro K m
    induction m with
    | zero =>
      intro q n i out hq hn hg ho hy
      obtain ⟨n, rfl⟩ : ∃ j, n = j + 1 := ⟨n - 1, by omega⟩
      exact ⟨out, by rw [m_law12_PatternMatchesBuilt_L2, m_law12_PatternMatchesBuilt_B2, if_neg (by simp only []; omega)], by omega, hy⟩
    | succ m ih =>
      intro q n i out hq hn hg ho hy
      obtain ⟨n, rfl⟩ : ∃ j, n = j + 1 := ⟨n - 1, by omega⟩
      rw [m_law12_PatternMatchesBuilt_L2, m_law12_PatternMatchesBuilt_B2, if_pos (by simp only []; omega), jn_eq, need_pos (by simp only []; omega), i64_succ (by omega)]
      simp only []
      by_cases h30 : (gi (ser t) (q : Int)).1 = 30
      · rw [if_neg (fun h => h h30)]
        obtain ⟨v, i2, e2, g2, pv⟩ := gVal2 hg
        rw [e2, bnd1_mk]
        simp only []
        rw [need_pos (by simp; omega)]
        exact ih (q + 1) n i2 (out ++ [v]) (by omega) (by omega) g2 (by simp; omega) (fun y h => by
          rcases List.mem_append.1 h with h | h
          · exact hy y h
          · rw [List.mem_singleton.1 h]; exact pv)
      · rw [if_pos h30]
        exact ih (q + 1) n i out (by omega) (by omega) hg (by omega) hy
  simp only [jn_eq]
  obtain ⟨l, hl, hll, hy⟩ := loop _ (ser t).length 0 FU i1 [] (by omega) (by omega) g1 (by simp) (fun y h => by cases h)
  rw [Int.natCast_zero] at hl
  rw [hl]
  rw [pBuildW _ l (by omega) (fun y h => (hy y h).len), bnd1_mk]
  rcases buildW_cases (ser t) l with ⟨t', h1, h2, h3, h4, h5⟩ | h5
  · rw [h5]
    simp only [Bool.not_true, Bool.false_eq_true, if_false]
    have hM := pMatchW (ser t) (bd 64 t' l).1 (by omega)
    rw [match_of_build h1 h2 k3 h3 h4] at hM
    rw [hM, bnd1_mk, awake12, bnd1_mk]
    simp only [if_true]
    rw [hEqual _ _ (by omega), bnd1_mk, decide_eq_true rfl]
  · rw [h5]
    simp only [Bool.not_false, if_true]
    rw [rBuildW _ l (by omega) (by omega), bnd1_mk, awake12, bnd1_mk, h5]
    simp

theorem OkT.succ {k : Nat} {t : Nd} (h : OkT k t) : OkT (k + 1) t := by
  induction h with | mk hf hk ih => exact .mk hf ih
theorem OkT.le {k j : Nat} {t : Nd} (h : OkT k t) (hj : k ≤ j) : OkT j t := by
  obtain ⟨d, rfl⟩ : ∃ d, j = k + d := ⟨j - k, by omega⟩
  clear hj
  induction d with
  | zero => exact h
  | succ d ih => exact ih.succ
end Go.Proofs.YtpfdeahcjlfijaaGreat
/- PatternMatchesBuilt: for every input the call returns true, and the arguments read as before. No condition. -/
namespace Go.Proofs.YtpfdeahcjlfijaaGreat
open Go.ChangeShapes Go.WideShapes Go.ChangeAt Go.RowKit

theorem o_int : Opens Tryz.prog 3 1 (fun x : Int => [.exact (.int .i64 x)]) (fun _ => 1) (fun x => (Lit.int .i64 x).wf = true) := fun e0 W fuel cs y h => (opens_int Tryz.underlying3) e0 W fuel cs y h
theorem o_L_int : Opens Tryz.prog 22 1 (fun xs : List Int => [.row 1 c_int xs]) (fun xs => szL (fun _ => 1) xs + 1) (fun xs => xs.length ≤ maxLen ∧ ∀ x ∈ xs, (fun x => (Lit.int .i64 x).wf = true) x) := fun e0 W fuel cs y h => (opens_slice Tryz.underlying22 (by kernel_rfl) (by decide) o_int) e0 W fuel cs y h
set_option maxRecDepth 100000 in
theorem patternMatchesBuilt_lifted (os : Os) (started : os.Started) (H : Type) (enc : TypeId × Value → H) :
    ReturnsInHanded {} Tryz.checked os 3 .any (Rows.patternMatchesBuiltSpec.pre6 enc Tryz.prog Tryz.f3 Rows.patternMatchesBuiltRow.domain false) (Rows.patternMatchesBuiltSpec.post enc Tryz.prog Tryz.f3 false true false false) := by
  refine returnsInHanded_of_change (C := Tryz.checked) Tryz.own started (by kernel_rfl) Tryz.func3
    (ChangeSpec.witness6 (enc := enc) (C := Tryz.checked) false ⟨#[], #[.slice none 0 0], []⟩ 8 (by kernel_rfl) (by kernel_rfl) (by kernel_rfl) (by kernel_rfl)) ?_
  intro W base args ds gs before hval0 hW hcnd _
  have hval : ∀ (j : Nat) t v, Tryz.f3.params[j]? = some t → args[j]? = some v → Value.okWide Tryz.prog W .any base t v := hval0
  have hW' := hW
  obtain ⟨p, q, hA0, hV, rfl, hfz, hnd⟩ := hW
  have hA : DataW.TrodAll enc Tryz.prog W 0 (fun _ => true) true Tryz.f3.params.toList args.toList ds p := hA0
  rw [Tryz.params3] at hA hval
  obtain ⟨v0, vs0, d0, ds0, p0, q0, hargs, rfl, rfl, h0, r0⟩ := trodAll_cons hA
  obtain ⟨rfl, rfl, rfl⟩ := trodAll_nil r0
  obtain rfl : args = #[v0] := by cases args; simp_all
  obtain ⟨rfl, rfl⟩ := trodVars_none hV
  clear hA0
  simp only [List.append_nil] at hW'
  have hlt := hW'.lt
  obtain ⟨x0, qq0, g0, s0⟩ := arg_open o_L_int (plain_slice Tryz.underlying22 (hval 0 22 v0 rfl rfl)) h0
  refine (Pure.call (m_law12_PatternMatchesBuilt_ok x0 true (patternMatchesBuilt_true x0 qq0)) (vs := [v0]) ⟨g0.1, trivial⟩).mono fun e W' ⟨he, hb⟩ => ?_
  subst he
  exact ⟨_, rfl, post_of_below (pa := p0 ++ []) (pv := []) hW' (fun _ _ _ => trodAll_cons_mk (shut_bool Tryz.underlying4 true) trodAll_mk0)
    (fun sp hsp => trodAll_cons_mk (trod_after (by kernel_rfl) (of_decide_eq_true (by kernel_rfl)) h0 hb (fun x hx => hlt x (by simp [hx])) (fun x hx => by simp [hx]) sp hsp) (trodAll_mk0))
    (fun _ _ => rfl) (by simp) hb (ok_one (by kernel_rfl) rfl (okWide_bool_mk Tryz.underlying4 true))⟩

theorem patternMatchesBuilt_holds : Rows.PatternMatchesBuiltSaid :=
  OpenClaim.holds_of_wide 3 Tryz.f3 rfl rfl rfl rfl rfl rfl rfl ⟨rfl, rfl, rfl, rfl, rfl⟩ rfl rfl rfl rfl rfl (by kernel_rfl) Tryz.func3 (by kernel_rfl)
    (of_decide_eq_true (by kernel_rfl)) (by unfold Func.isWrapper; first | (rw [if_pos (by decide +kernel)]; kernel_rfl) | (rw [if_neg (by decide +kernel)]; exact ⟨rfl, rfl⟩))
    (fun os started H enc _ => patternMatchesBuilt_lifted os started H enc)

end Go.Proofs.YtpfdeahcjlfijaaGreat
