/- PatternAgrees. -/
import Derived.Test.YtpfdeahcjlfijaaGreatQD2
import Derived.Test.YtpfdeahcjlfijaaGreatQD4
import Derived.Test.YtpfdeahcjlfijaaGreatQD8
namespace Go.Proofs.YtpfdeahcjlfijaaGreat
attribute [local irreducible] FU

theorem patternAgrees_true (p : List (Int × Int × Int)) (v : List UInt8) (l : List (List UInt8)) (c : List Int) (at_ : Int) (x : Int × Int × Int) (_ : p.length ≤ maxLen ∧ ∀ x ∈ p, (Lit.int .i64 x.1).wf = true ∧ (Lit.int .i64 x.2.1).wf = true ∧ (Lit.int .i64 x.2.2).wf = true) (_ : v.length ≤ maxLen) (_ : l.length ≤ maxLen ∧ ∀ x ∈ l, x.length ≤ maxLen) (hc : c.length ≤ maxLen ∧ ∀ x ∈ c, (Lit.int .i64 x).wf = true) (_ : (Lit.int .i64 at_).wf = true) (_ : (Lit.int .i64 x.1).wf = true ∧ (Lit.int .i64 x.2.1).wf = true ∧ (Lit.int .i64 x.2.2).wf = true)
  (hsz : (szL (fun _ : Int × Int × Int => 1 + 1 + 1) p + 1) + (v.length + 1) + (szL (fun x : List UInt8 => x.length + 1) l + 1) + (szL (fun _ : Int => 1) c + 1) + 1 + (1 + 1 + 1) ≤ 1048576) : m_law12_PatternAgrees p v l c at_ x = some true := by
 have hFU := FU_ge
 have b1 := szL_len (sz := fun _ : Int × Int × Int => 1 + 1 + 1) (fun x => by omega) p
 have b2 := szL_len (sz := fun x : List UInt8 => x.length + 1) (fun x => by omega) l
 have b3 : ∀ y ∈ l, y.length ≤ 1048576 := fun y hy => by
  have := szL_mem (sz := fun x : List UInt8 => x.length + 1) hy
  omega
 unfold m_law12_PatternAgrees m_gen_New
 simp only [bnd1_mk]
 obtain ⟨t, i1, e1, g1, k1, k2, k3⟩ := gPat3 (gs_new hc)
 rw [e1, bnd1_mk]
 have hcv := cntV_le (ser t)
 have hpos := k1.pos
 have loop : ∀ (K : List Int → Int → List Vl → Option Bool) (m q n : Nat) (i : Int) (out : List Vl), q + m = cntV (ser t) → m < n → GS c i → out.length = q → (∀ y ∈ out, PV2 y) →
   ∃ i' out', m_law12_PatternAgrees_L2 (ser t, (c, i1)) K n c i out (q : Int) = K c i' out' ∧ GS c i' ∧ out'.length = cntV (ser t) ∧ ∀ y ∈ out', PV2 y := by
  intro K m
  induction m with
  | zero =>
   intro q n i out hq hn hg ho hy
   obtain ⟨n, rfl⟩ : ∃ j, n = j + 1 := ⟨n - 1, by omega⟩
   exact ⟨i, out, by rw [m_law12_PatternAgrees_L2, m_law12_PatternAgrees_B2]; simp only []; rw [rVars_ser k2, bnd1_mk, if_neg (by omega)], hg, by omega, hy⟩
  | succ m ih =>
   intro q n i out hq hn hg ho hy
   obtain ⟨n, rfl⟩ : ∃ j, n = j + 1 := ⟨n - 1, by omega⟩
   obtain ⟨v, i2, e2, g2, pv⟩ := gVal2 hg
   rw [m_law12_PatternAgrees_L2, m_law12_PatternAgrees_B2]
   simp only []
   rw [rVars_ser k2, bnd1_mk, if_pos (by omega), e2, bnd1_mk]
   simp only []
   rw [need_pos (by simp; omega), i64_succ (by omega)]
   exact ih (q + 1) n i2 (out ++ [v]) (by omega) (by omega) g2 (by simp; omega) (fun y h => by
    rcases List.mem_append.1 h with h | h
    ·exact hy y h
    ·rw [List.mem_singleton.1 h]; exact pv)
 refine jn_abs fun K hK => ?_
 obtain ⟨i2, m, hl, g2, hml, hy⟩ := loop K (cntV (ser t)) 0 FU i1 [] (by omega) (by omega) g1 rfl (fun y h => by cases h)
 rw [Int.natCast_zero] at hl
 simp only []
 rw [hl, hK]
 simp only []
 obtain ⟨w, i3, e3, _⟩ := gVal3 g2
 obtain ⟨a, ea, a0, a1⟩ := pMod at_ (n := ((ser t).length : Int)) (by omega) (by omega)
 rw [e3, bnd1_mk, need_pos (by omega), ea, bnd1_mk]
 refine jn_abs fun K2 hK2 => ?_
 have h2 : ∀ r : List Cd, r.length = (ser t).length → K2 r = some true := by
  intro r hr
  rw [hK2]
  simp only [jn_eq]
  rw [awake12, bnd1_mk, if_pos rfl, lAgrees p v l _ (by omega) (by omega) b3, bnd1_mk, if_pos rfl, lAgrees (ser t) _ m _ (by omega) (by omega) (fun y h => (hy y h).len), bnd1_mk, if_pos rfl, lAgrees (ser t) v l _ (by omega) (by omega) b3, bnd1_mk, if_pos rfl, lAgrees r _ m _ (by omega) (by omega) (fun y h => (hy y h).len), bnd1_mk]
 obtain ⟨z, ez, z0, z1⟩ := pMod (i64 (Int.tdiv at_ 64)) (n := 3) (by omega) (by omega)
 rw [ez, bnd1_mk]
 by_cases c0 : z = 0
 ·rw [if_pos c0, need_pos (by omega)]; exact h2 _ (by simp)
 rw [if_neg c0]
 by_cases c1 : z = 1
 ·obtain ⟨u, eu, _⟩ := pMod x.1 (n := 14) (by omega) (by omega)
  rw [if_pos c1, eu, bnd1_mk, need_pos (by omega)]; exact h2 _ (by simp)
 rw [if_neg c1]
 obtain ⟨u, eu, _⟩ := pMod x.2.2 (n := 3) (by omega) (by omega)
 rw [eu, bnd1_mk, need_pos (by omega), need_pos (by omega)]
 exact h2 _ (by simp)
end Go.Proofs.YtpfdeahcjlfijaaGreat
/- PatternAgrees: for every input the call returns true, and the arguments read as before. Condition: what the arguments hold is of bulk at most 1048576, as the given statement has it. -/
namespace Go.Proofs.YtpfdeahcjlfijaaGreat
open Go.ChangeShapes Go.WideShapes Go.ChangeAt Go.RowKit

theorem o_int : Opens Tryz.prog 3 1 (fun x : Int => [.exact (.int .i64 x)]) (fun _ => 1) (fun x => (Lit.int .i64 x).wf = true) := fun e0 W fuel cs y h => (opens_int Tryz.underlying3) e0 W fuel cs y h
theorem o_int64 : Opens Tryz.prog 2 1 (fun x : Int => [.exact (.int .i64 x)]) (fun _ => 1) (fun x => (Lit.int .i64 x).wf = true) := fun e0 W fuel cs y h => (opens_int Tryz.underlying2) e0 W fuel cs y h
theorem o_api_Code : Opens Tryz.prog 29 3 zae (fun x => (fun _ => 1) x.1 + (fun _ => 1) x.2.1 + (fun _ => 1) x.2.2) (fun x => (fun x => (Lit.int .i64 x).wf = true) x.1 ∧ (fun x => (Lit.int .i64 x).wf = true) x.2.1 ∧ (fun x => (Lit.int .i64 x).wf = true) x.2.2) := fun e0 W fuel cs y h => (opens_struct3 Tryz.underlying29 (by kernel_rfl) rfl rfl rfl (by kernel_rfl) (by kernel_rfl) (by kernel_rfl) o_int o_int64 o_int) e0 W fuel cs y h
theorem o_L_api_Code : Opens Tryz.prog 25 1 (fun xs : List (Int × Int × Int) => [.row 3 zae xs]) (fun xs => szL (fun x => (fun _ => 1) x.1 + (fun _ => 1) x.2.1 + (fun _ => 1) x.2.2) xs + 1) (fun xs => xs.length ≤ maxLen ∧ ∀ x ∈ xs, (fun x => (fun x => (Lit.int .i64 x).wf = true) x.1 ∧ (fun x => (Lit.int .i64 x).wf = true) x.2.1 ∧ (fun x => (Lit.int .i64 x).wf = true) x.2.2) x) := fun e0 W fuel cs y h => (opens_slice Tryz.underlying25 (by kernel_rfl) (by decide) o_api_Code) e0 W fuel cs y h
theorem o_api_Value : Opens Tryz.prog 30 1 (fun x : List UInt8 => [.exact (.string (bs x))]) (fun x => x.length + 1) (fun x => x.length ≤ maxLen) := fun e0 W fuel cs y h => (opens_str Tryz.underlying30) e0 W fuel cs y h
theorem o_L_api_Value : Opens Tryz.prog 27 1 (fun xs : List (List UInt8) => [.row 1 zab xs]) (fun xs => szL (fun x => x.length + 1) xs + 1) (fun xs => xs.length ≤ maxLen ∧ ∀ x ∈ xs, (fun x => x.length ≤ maxLen) x) := fun e0 W fuel cs y h => (opens_slice Tryz.underlying27 (by kernel_rfl) (by decide) o_api_Value) e0 W fuel cs y h
theorem o_L_int : Opens Tryz.prog 22 1 (fun xs : List Int => [.row 1 c_int xs]) (fun xs => szL (fun _ => 1) xs + 1) (fun xs => xs.length ≤ maxLen ∧ ∀ x ∈ xs, (fun x => (Lit.int .i64 x).wf = true) x) := fun e0 W fuel cs y h => (opens_slice Tryz.underlying22 (by kernel_rfl) (by decide) o_int) e0 W fuel cs y h
set_option maxRecDepth 100000 in
theorem patternAgrees_lifted (os : Os) (started : os.Started) (H : Type) (enc : TypeId × Value → H) (F : Stop.Interp) :
    ReturnsInHanded {} Tryz.checked os 6 .any ((Rows.OpenSpec.upto Rows.patternAgreesSpec).pre6 enc Tryz.prog Tryz.f6 Rows.patternAgreesUptoRow.domain false) (((Rows.OpenSpec.upto Rows.patternAgreesSpec).at F).post enc Tryz.prog Tryz.f6 false true false false) := by
  refine returnsInHanded_of_cond (C := Tryz.checked) (s := Rows.OpenSpec.upto Rows.patternAgreesSpec) (k := Rows.uptoSmall) rfl Tryz.own started (by kernel_rfl) Tryz.func6
    (OpenSpec.witness (enc := enc) (C := Tryz.checked) (s := Rows.OpenSpec.upto Rows.patternAgreesSpec) (k := Rows.uptoSmall) rfl false ⟨#[], #[.slice none 0 0, .string ⟨#[]⟩, .slice none 0 0, .slice none 0 0, .int .i64 0, .agg #[.int .i64 0, .int .i64 0, .int .i64 0]], []⟩ 8 (by kernel_rfl) (by kernel_rfl) (by kernel_rfl)
      (x := ([.nil, .lit (.string []), .nil, .nil, .lit (.int .i64 0), .agg [.lit (.int .i64 0), .lit (.int .i64 0), .lit (.int .i64 0)]], [], [])) (by kernel_rfl) rfl (by kernel_rfl)) ?_
  intro W base args ds gs before hval0 hW _ hk _
  have hval : ∀ (j : Nat) t v, Tryz.f6.params[j]? = some t → args[j]? = some v → Value.okWide Tryz.prog W .any base t v := hval0
  have hW' := hW
  obtain ⟨p, q, hA0, hV, rfl, hfz, hnd⟩ := hW
  have hA : DataW.TrodAll enc Tryz.prog W 0 (fun _ => true) true Tryz.f6.params.toList args.toList ds p := hA0
  rw [Tryz.params6] at hA hval
  obtain ⟨v0, vs0, d0, ds0, p0, q0, hargs, rfl, rfl, h0, r0⟩ := trodAll_cons hA
  obtain ⟨v1, vs1, d1, ds1, p1, q1, rfl, rfl, rfl, h1, r1⟩ := trodAll_cons r0
  obtain ⟨v2, vs2, d2, ds2, p2, q2, rfl, rfl, rfl, h2, r2⟩ := trodAll_cons r1
  obtain ⟨v3, vs3, d3, ds3, p3, q3, rfl, rfl, rfl, h3, r3⟩ := trodAll_cons r2
  obtain ⟨v4, vs4, d4, ds4, p4, q4, rfl, rfl, rfl, h4, r4⟩ := trodAll_cons r3
  obtain ⟨v5, vs5, d5, ds5, p5, q5, rfl, rfl, rfl, h5, r5⟩ := trodAll_cons r4
  obtain ⟨rfl, rfl, rfl⟩ := trodAll_nil r5
  obtain rfl : args = #[v0, v1, v2, v3, v4, v5] := by cases args; simp_all
  obtain ⟨rfl, rfl⟩ := trodVars_none hV
  clear hA0
  simp only [List.append_nil] at hW'
  have hlt := hW'.lt
  obtain ⟨x0, qq0, g0, s0⟩ := arg_open o_L_api_Code (plain_slice Tryz.underlying25 (hval 0 25 v0 rfl rfl)) h0
  obtain ⟨x1, qq1, g1, s1⟩ := arg_open o_api_Value (plain_str Tryz.underlying30 (hval 1 30 v1 rfl rfl)) h1
  obtain ⟨x2, qq2, g2, s2⟩ := arg_open o_L_api_Value (plain_slice Tryz.underlying27 (hval 2 27 v2 rfl rfl)) h2
  obtain ⟨x3, qq3, g3, s3⟩ := arg_open o_L_int (plain_slice Tryz.underlying22 (hval 3 22 v3 rfl rfl)) h3
  obtain ⟨x4, qq4, g4, s4⟩ := arg_open o_int (plain_int Tryz.underlying3 (hval 4 3 v4 rfl rfl)) h4
  obtain ⟨x5, qq5, g5, s5⟩ := arg_openS o_api_Code Tryz.underlying29 (hval 5 29 v5 rfl rfl) h5
  have hsz : (fun xs => szL (fun x => (fun _ => 1) x.1 + (fun _ => 1) x.2.1 + (fun _ => 1) x.2.2) xs + 1) x0 + (fun x => x.length + 1) x1 + (fun xs => szL (fun x => x.length + 1) xs + 1) x2 + (fun xs => szL (fun _ => 1) xs + 1) x3 + (fun _ => 1) x4 + (fun x => (fun _ => 1) x.1 + (fun _ => 1) x.2.1 + (fun _ => 1) x.2.2) x5 ≤ 1048576 := by
    have hk' := of_decide_eq_true hk
    simp only [List.append_nil, Rows.uptoBulkAll] at hk'
    try simp only [] at s0 s1 s2 s3 s4 s5
    try simp only []
    omega
  refine (Pure.call (m_law12_PatternAgrees_ok x0 x1 x2 x3 x4 x5 true (patternAgrees_true x0 x1 x2 x3 x4 x5 qq0 qq1 qq2 qq3 qq4 qq5 hsz)) (vs := [v0, v1, v2, v3, v4, v5]) ⟨g0.1, g1.1, g2.1, g3.1, g4.1, g5.1, trivial⟩).mono fun e W' ⟨he, hb⟩ => ?_
  subst he
  exact ⟨_, rfl, post_of_below (pa := p0 ++ (p1 ++ (p2 ++ (p3 ++ (p4 ++ (p5 ++ [])))))) (pv := []) hW' (fun _ _ _ => trodAll_cons_mk (shut_bool Tryz.underlying4 true) trodAll_mk0)
    (fun sp hsp => trodAll_cons_mk (trod_after (by kernel_rfl) (of_decide_eq_true (by kernel_rfl)) h0 hb (fun x hx => hlt x (by simp [hx])) (fun x hx => by simp [hx]) sp hsp) (trodAll_cons_mk (trod_after (by kernel_rfl) (of_decide_eq_true (by kernel_rfl)) h1 hb (fun x hx => hlt x (by simp [hx])) (fun x hx => by simp [hx]) sp hsp) (trodAll_cons_mk (trod_after (by kernel_rfl) (of_decide_eq_true (by kernel_rfl)) h2 hb (fun x hx => hlt x (by simp [hx])) (fun x hx => by simp [hx]) sp hsp) (trodAll_cons_mk (trod_after (by kernel_rfl) (of_decide_eq_true (by kernel_rfl)) h3 hb (fun x hx => hlt x (by simp [hx])) (fun x hx => by simp [hx]) sp hsp) (trodAll_cons_mk (trod_after (by kernel_rfl) (of_decide_eq_true (by kernel_rfl)) h4 hb (fun x hx => hlt x (by simp [hx])) (fun x hx => by simp [hx]) sp hsp) (trodAll_cons_mk (trod_after (by kernel_rfl) (of_decide_eq_true (by kernel_rfl)) h5 hb (fun x hx => hlt x (by simp [hx])) (fun x hx => by simp [hx]) sp hsp) (trodAll_mk0)))))))
    (fun _ _ => rfl) (by simp) hb (ok_one (by kernel_rfl) rfl (okWide_bool_mk Tryz.underlying4 true))⟩

theorem patternAgrees_holds : Rows.PatternAgreesUptoSaid :=
  OpenClaim.holds_of_cond 6 Tryz.f6 rfl rfl rfl rfl rfl rfl rfl ⟨rfl, rfl, rfl, rfl, rfl⟩ rfl rfl rfl rfl rfl (by kernel_rfl) Tryz.func6 (by kernel_rfl)
    (of_decide_eq_true (by kernel_rfl)) (by unfold Func.isWrapper; first | (rw [if_pos (by decide +kernel)]; kernel_rfl) | (rw [if_neg (by decide +kernel)]; exact ⟨rfl, rfl⟩))
    (fun os started H enc _ F => patternAgrees_lifted os started H enc F)

end Go.Proofs.YtpfdeahcjlfijaaGreat
