/- The law of Needs. -/
import Derived.Test.YtdfdjgolijckfaaDoorQn1
import Derived.Test.YtdfdjgolijckfaaDoorQn3
import Derived.Test.YtdfdjgolijckfaaDoorQn6
import Derived.LaidMore
import Derived.Stop.Joined
import Derived.SevenTiedAt
import Derived.Test.YtdfdjgolijckfaaDoorTie
import Derived.Test.YtdfdjgolijckfaaDoorCards
namespace Go.Proofs.YtdfdjgolijckfaaDoor
attribute [local irreducible] FU
theorem srk_len {β : Type} (b : Int) : ∀ (l : List (Int × β)) (a : Int), SrK l → (∀ x ∈ l, a ≤ x.1 ∧ x.1 ≤ b) → l.length ≤ (b - a + 1).toNat
  | [], _, _, _ => Nat.zero_le _
  | x :: l, a, hs, h => by
    obtain ⟨p1, p2⟩ := List.pairwise_cons.1 hs
    have h0 := h x List.mem_cons_self
    have := srk_len b l (x.1 + 1) p2 (fun y hy => ⟨by have := p1 y hy; omega, (h y (List.mem_cons_of_mem _ hy)).2⟩)
    simp only [List.length_cons]; omega
theorem vs_bd' {t : List Nd} (h : vdB t = true) {v : Int} (hv : v ∈ vsN t) : 0 ≤ v ∧ v ≤ 1073741824 := by
  obtain ⟨n, a, b, c⟩ := vs_mem hv
  have := fm_kids (vd_fm h n a); omega
theorem needs_len {t : List Nd} {c : Int} {r : List (Int × Int) × Bool} (h : NeedsIs t c r) : r.1.length ≤ 1073741825 := by
  unfold NeedsIs at h
  split at h
  · rename_i hh
    have := srk_len 1073741824 r.1 0 h.2.1 (fun x hx => by
      have h1 := mem_lookL h.2.1.nd (v := x.1) (x := x.2) hx
      rw [h.2.2] at h1
      split at h1
      · rename_i h2; exact vs_bd' hh.1 h2.1
      · cases h1)
    omega
  · rw [h]; simp
theorem eqNeed_loop (l : List (Int × Int)) (hl : l.length ≤ 4611686018427387904) (K : Unit → Option Bool) : ∀ (m j n : Nat), j + m = l.length → m < n → m_help_Equal_api_Need_L2 l l K n (j : Int) = K ()
  | 0, j, n, hj, hn => by
    obtain ⟨n, rfl⟩ : ∃ q, n = q + 1 := ⟨n - 1, by omega⟩
    rw [m_help_Equal_api_Need_L2, m_help_Equal_api_Need_B2, if_neg (by omega)]
  | m + 1, j, n, hj, hn => by
    obtain ⟨n, rfl⟩ : ∃ q, n = q + 1 := ⟨n - 1, by omega⟩
    rw [m_help_Equal_api_Need_L2, m_help_Equal_api_Need_B2, if_pos (by omega), need_pos (by omega), need_pos (by omega), if_neg (fun h => h rfl), i64s (by omega)]
    exact eqNeed_loop l hl K m (j + 1) n (by omega) (by omega)
theorem eqNeed (l : List (Int × Int)) (hl : l.length ≤ 4611686018427387904) : m_help_Equal_api_Need l l = some true := by
  unfold m_help_Equal_api_Need
  rw [if_neg (fun h => h rfl), jn_eq]
  exact eqNeed_loop l hl _ l.length 0 FU (by omega) (by have := FU_ge; omega)
theorem needs_eq' (t : List Nd) (c : Int) : ∃ r, m_types_Needs t c = some r ∧ m_ref6_Needs t c = some r ∧ m_help_Equal_api_Need r.1 r.1 = some true := by
  obtain ⟨r, h1, h2⟩ := vNeeds t c
  obtain ⟨r', h3, h4⟩ := needs_eq t c
  rw [h1] at h3
  cases h3
  exact ⟨r, h1, h4, eqNeed _ (by have := needs_len h2; omega)⟩
theorem needsLoop (u : List Nd) (K : Unit → Option Bool) : ∀ (m n : Nat) (j : Int), j + m = 9 → -1 ≤ j → m < n → m_law7_TypesNeeds_L2 K n u j = K ()
  | 0, n, j, hj, h0, hn => by
    obtain ⟨n, rfl⟩ : ∃ q, n = q + 1 := ⟨n - 1, by omega⟩
    rw [m_law7_TypesNeeds_L2, m_law7_TypesNeeds_B2, if_neg (by omega)]
  | m + 1, n, j, hj, h0, hn => by
    obtain ⟨n, rfl⟩ : ∃ q, n = q + 1 := ⟨n - 1, by omega⟩
    obtain ⟨r, h1, h2, h3⟩ := needs_eq' u j
    rw [m_law7_TypesNeeds_L2, m_law7_TypesNeeds_B2, if_pos (by omega), h1, bnd1_mk, h2, bnd1_mk, jn_eq, if_neg (fun h => h rfl), h3, bnd1_mk, i64_id (by omega)]
    exact needsLoop u K m n (j + 1) (by omega) (by omega) (by omega)
theorem gs_new {c : List Int} (hc : c.length ≤ maxLen ∧ ∀ x ∈ c, (Lit.int .i64 x).wf = true) : GS c 0 := ⟨by omega, by omega, by have := hc.1; unfold maxLen at this; omega⟩
theorem typesNeeds_true (t : List Nd) (c : List Int) (k : Int) (_ : t.length ≤ maxLen ∧ ∀ x ∈ t, (Lit.int .i64 x.1).wf = true ∧ (Lit.int .i64 x.2.1).wf = true ∧ (Lit.int .i64 x.2.2).wf = true) (hc : c.length ≤ maxLen ∧ ∀ x ∈ c, (Lit.int .i64 x).wf = true) (_ : (Lit.int .i64 k).wf = true) : m_law7_TypesNeeds t c k = some true := by
  obtain ⟨u, i', h1, _, _⟩ := vTyp (V := 3) (by omega) (by omega) 3 (by omega) (gs_new hc) 4 (by omega)
  obtain ⟨r, h2, h3, h4⟩ := needs_eq' t k
  unfold m_law7_TypesNeeds m_gen_New
  rw [bnd1_mk]
  dsimp only
  rw [h1, bnd1_mk, h2, bnd1_mk, h3, bnd1_mk, jn_eq, awake7, bnd1_mk, if_neg (by simp), if_neg (fun h => h rfl), h4, bnd1_mk, Bool.not_true]
  simp only [Bool.false_eq_true, ↓reduceIte, jn_eq]
  exact needsLoop u _ 10 FU (-1) (by omega) (by omega) (by have := FU_ge; omega)
end Go.Proofs.YtdfdjgolijckfaaDoor
/- TypesNeeds: for every input the call returns true, and the arguments read as before. No condition. -/
namespace Go.Proofs.YtdfdjgolijckfaaDoor
open Go.ChangeShapes Go.WideShapes Go.ChangeAt Go.RowKit

theorem o_int : Opens Tryd.prog 3 1 (fun x : Int => [.exact (.int .i64 x)]) (fun _ => 1) (fun x => (Lit.int .i64 x).wf = true) := fun e0 W fuel cs y h => (opens_int Tryd.underlying3) e0 W fuel cs y h
theorem o_api_TypeNode : Opens Tryd.prog 41 3 c_api_TypeNode (fun x => (fun _ => 1) x.1 + (fun _ => 1) x.2.1 + (fun _ => 1) x.2.2) (fun x => (fun x => (Lit.int .i64 x).wf = true) x.1 ∧ (fun x => (Lit.int .i64 x).wf = true) x.2.1 ∧ (fun x => (Lit.int .i64 x).wf = true) x.2.2) := fun e0 W fuel cs y h => (opens_struct3 Tryd.underlying41 (by kernel_rfl) rfl rfl rfl (by kernel_rfl) (by kernel_rfl) (by kernel_rfl) o_int o_int o_int) e0 W fuel cs y h
theorem o_L_api_TypeNode : Opens Tryd.prog 22 1 (fun xs : List (Int × Int × Int) => [.row 3 c_api_TypeNode xs]) (fun xs => szL (fun x => (fun _ => 1) x.1 + (fun _ => 1) x.2.1 + (fun _ => 1) x.2.2) xs + 1) (fun xs => xs.length ≤ maxLen ∧ ∀ x ∈ xs, (fun x => (fun x => (Lit.int .i64 x).wf = true) x.1 ∧ (fun x => (Lit.int .i64 x).wf = true) x.2.1 ∧ (fun x => (Lit.int .i64 x).wf = true) x.2.2) x) := fun e0 W fuel cs y h => (opens_slice Tryd.underlying22 (by kernel_rfl) (by decide) o_api_TypeNode) e0 W fuel cs y h
theorem o_L_int : Opens Tryd.prog 23 1 (fun xs : List Int => [.row 1 c_int xs]) (fun xs => szL (fun _ => 1) xs + 1) (fun xs => xs.length ≤ maxLen ∧ ∀ x ∈ xs, (fun x => (Lit.int .i64 x).wf = true) x) := fun e0 W fuel cs y h => (opens_slice Tryd.underlying23 (by kernel_rfl) (by decide) o_int) e0 W fuel cs y h
theorem door_met (os : Os) (args : Array Value) : laidMetH Tryd.prog Rows.typesNeedsRow.laid ((World.doorLaid Tryd.prog 400 os).forCall (fun _ _ => 0) ⟨#[], args, []⟩).memory :=
  laidMetH_of_parts3 (fuel := 8) (laidMet_of_run' 8 (by kernel_rfl) (by kernel_rfl)) (by kernel_rfl) (by kernel_rfl)
set_option maxRecDepth 100000 in
theorem typesNeeds_lifted (os : Os) (started : os.Started) (H : Type) (enc : TypeId × Value → H) :
    ReturnsInHanded {} Tryd.checked os 8 .any (fun w args => (Rows.typesNeedsSpec.pre enc Tryd.prog Tryd.f8 Rows.typesNeedsRow.domain false w args ∧ laidMetH Tryd.prog Rows.typesNeedsRow.laid w) ∧ sizedMet enc Tryd.prog Tryd.f8 (OpenSpec.ofChange Rows.typesNeedsSpec) false w args) (Rows.typesNeedsSpec.post enc Tryd.prog Tryd.f8 false true false false) := by
  refine returnsInHanded_of_change_and (C := Tryd.checked) (X := fun w _ => laidMetH Tryd.prog Rows.typesNeedsRow.laid w) (fun _ _ _ hh h => h.of_heap hh) Tryd.own started (by kernel_rfl) Tryd.func8
    (ChangeSpec.witness_shaped (enc := enc) (C := Tryd.checked) (os := os) (X := fun w _ => laidMetH Tryd.prog Rows.typesNeedsRow.laid w) false (World.doorLaid Tryd.prog 400 os) #[.slice none 0 0, .slice none 0 0, .int .i64 0] 8 rfl (World.shaped_of_RefB (by kernel_rfl) (by kernel_rfl)) (by kernel_rfl) (by kernel_rfl) (by kernel_rfl) (door_met os _)) ?_
  intro W base args ds gs before hval0 hW _ _ hL _
  have hval : ∀ (j : Nat) t v, Tryd.f8.params[j]? = some t → args[j]? = some v → Value.okWide Tryd.prog W .any base t v := hval0
  have hW' := hW
  obtain ⟨p, q, hA0, hV, rfl, hfz, hnd⟩ := hW
  have hA : DataW.TrodAll enc Tryd.prog W 0 (fun _ => true) true Tryd.f8.params.toList args.toList ds p := hA0
  rw [Tryd.params8] at hA hval
  obtain ⟨v0, vs0, d0, ds0, p0, q0, hargs, rfl, rfl, h0, r0⟩ := trodAll_cons hA
  obtain ⟨v1, vs1, d1, ds1, p1, q1, rfl, rfl, rfl, h1, r1⟩ := trodAll_cons r0
  obtain ⟨v2, vs2, d2, ds2, p2, q2, rfl, rfl, rfl, h2, r2⟩ := trodAll_cons r1
  obtain ⟨rfl, rfl, rfl⟩ := trodAll_nil r2
  obtain rfl : args = #[v0, v1, v2] := by cases args; simp_all
  obtain ⟨rfl, rfl⟩ := trodVars_none hV
  clear hA0
  simp only [List.append_nil] at hW'
  have hlt := hW'.lt
  obtain ⟨x0, qq0, g0, s0⟩ := arg_open o_L_api_TypeNode (plain_slice Tryd.underlying22 (hval 0 22 v0 rfl rfl)) h0
  obtain ⟨x1, qq1, g1, s1⟩ := arg_open o_L_int (plain_slice Tryd.underlying23 (hval 1 23 v1 rfl rfl)) h1
  obtain ⟨x2, qq2, g2, s2⟩ := arg_open o_int (plain_int Tryd.underlying3 (hval 2 3 v2 rfl rfl)) h2
  refine (Pure.call (m_law7_TypesNeeds_ok x0 x1 x2 true (typesNeeds_true x0 x1 x2 qq0 qq1 qq2)) (vs := [v0, v1, v2]) ⟨g0.1, g1.1, g2.1, trivial⟩).mono fun e W' ⟨he, hb⟩ => ?_
  subst he
  exact ⟨_, rfl, post_of_below (pa := p0 ++ (p1 ++ (p2 ++ []))) (pv := []) hW' (fun _ _ _ => trodAll_cons_mk (shut_bool Tryd.underlying4 true) trodAll_mk0)
    (fun sp hsp => trodAll_cons_mk (trod_after (by kernel_rfl) (of_decide_eq_true (by kernel_rfl)) h0 hb (fun x hx => hlt x (by simp [hx])) (fun x hx => by simp [hx]) sp hsp) (trodAll_cons_mk (trod_after (by kernel_rfl) (of_decide_eq_true (by kernel_rfl)) h1 hb (fun x hx => hlt x (by simp [hx])) (fun x hx => by simp [hx]) sp hsp) (trodAll_cons_mk (trod_after (by kernel_rfl) (of_decide_eq_true (by kernel_rfl)) h2 hb (fun x hx => hlt x (by simp [hx])) (fun x hx => by simp [hx]) sp hsp) (trodAll_mk0))))
    (fun _ _ => rfl) (by simp) hb (ok_one (by kernel_rfl) rfl (okWide_bool_mk Tryd.underlying4 true))⟩

theorem typesNeeds_holds : Rows.TypesNeedsSaid :=
  OpenClaim.holds_of_wide 8 Tryd.f8 rfl rfl rfl rfl rfl rfl rfl ⟨rfl, rfl, rfl, rfl, rfl⟩ rfl rfl rfl rfl rfl (by kernel_rfl) Tryd.func8 (by kernel_rfl)
    (of_decide_eq_true (by kernel_rfl)) (by unfold Func.isWrapper; first | (rw [if_pos (by decide +kernel)]; kernel_rfl) | (rw [if_neg (by decide +kernel)]; exact ⟨rfl, rfl⟩))
    (fun os started H enc _ => typesNeeds_lifted os started H enc)

theorem typesNeeds_card_holds : Rows.TypesNeedsCardSaid :=
  Claim7.holds_tied_plain_at .later [] [.data, .data, .data] true (true, "266afa1125f812094a6acd2f15ec6e17dfc0fe2faf4d68696ad7b3b06d247b04") false
    typesNeeds_holds (fun _ h => by cases h) (by kernel_rfl) (fun _ h => by cases h) typesNeeds_row_tie rfl ⟨rfl, rfl⟩ (by kernel_rfl) rfl
    (fun f fn hf hfn => by
      obtain rfl : f = 8 := Option.some.inj ((show Tryd.prog.funcNamed "cspcheck/cspchecklaw7.TypesNeeds" = some 8 by kernel_rfl).symm.trans hf) |>.symm
      obtain rfl : fn = Tryd.f8 := (Option.some.inj (Tryd.func8.symm.trans hfn)).symm
      exact ⟨by kernel_rfl, fun j t ht => by
        rw [Tryd.params8] at ht
        have hm : t ∈ [22, 23, 3] := by simpa using Array.mem_of_getElem? ht
        have hall : ([22, 23, 3].all fun u => !Tryd.prog.wantsStandIn u) = true := by kernel_rfl
        exact (show Tryd.prog.wantsStandIn t = false by simpa using List.all_eq_true.1 hall t hm)⟩)
    (by kernel_rfl)
end Go.Proofs.YtdfdjgolijckfaaDoor
