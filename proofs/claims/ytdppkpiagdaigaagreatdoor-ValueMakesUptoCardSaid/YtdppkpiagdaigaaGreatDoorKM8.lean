/- The ten functions that make values return the reference's encodings. -/
import Derived.Test.YtdppkpiagdaigaaGreatDoorKM2
import Derived.Test.YtdppkpiagdaigaaGreatDoorKM4
import Derived.Test.YtdppkpiagdaigaaGreatDoorKM7
import Derived.LaidMore
import Derived.Deep.DeepWitnessRowRef
import Derived.Deep.DeepHandedRow
import Derived.Stop.Joined
import Derived.SevenTiedAt
import Derived.Test.YtdppkpiagdaigaaGreatDoorTie
import Derived.Test.YtdppkpiagdaigaaGreatDoorCards
namespace Go.Proofs.YtdppkpiagdaigaaGreatDoor
attribute [local irreducible] FU

section
variable (y3 : (List (List UInt8)) × ((List Int) × Int))
theorem vmk_loop (K : Unit → Option Bool) (hg : y3.1.length ≤ 1000000 ∧ ∀ x ∈ y3.1, x.length ≤ 1099511627776) (h : List (List UInt8)) (hhl : h.length ≤ 1000000) (hh : ∀ x ∈ h, x.length ≤ 1099511627776) : ∀ (m i n : Nat) (k : Int) (l q : List (List UInt8)), i + m = 2 → m < n → l.length ≤ 10000000 → (∀ x ∈ l, x.length ≤ 1099511627776) → q.length ≤ 1000000000 → (∀ x ∈ q, x.length ≤ 1099511627776) →
    m_law9_ValueMakes_L4 y3 K n k l q h i = K () := by
  intro m
  induction m with
  | zero =>
    intro i n k l q hi hn _ _ _ _
    obtain ⟨n, rfl⟩ : ∃ q, n = q + 1 := ⟨n - 1, by omega⟩
    rw [m_law9_ValueMakes_L4, m_law9_ValueMakes_B4, if_neg (by omega)]
  | succ m ih =>
    intro i n k l q hi hn hl hx hq hxq
    obtain ⟨n, rfl⟩ : ∃ q, n = q + 1 := ⟨n - 1, by omega⟩
    obtain ⟨d, d1, d2⟩ := dot_same k l (by omega) hx
    obtain ⟨k', e1, _, _⟩ := hMod k (n := 24) (by omega) (by omega)
    have t3 := rMake 3 (by decide) l (by omega)
    have t4 := rMake 4 (by decide) l (by omega)
    have t8 := rNumberedX 8 (by decide) k l (by omega)
    have t9 := rNumberedX 9 (by decide) k l (by omega)
    rw [show ((3 : UInt8).toNat : Int) = 3 from rfl] at t3
    rw [show ((4 : UInt8).toNat : Int) = 4 from rfl] at t4
    rw [show ((8 : UInt8).toNat : Int) = 8 from rfl] at t8
    rw [show ((9 : UInt8).toNat : Int) = 9 from rfl] at t9
    rw [m_law9_ValueMakes_L4, m_law9_ValueMakes_B4, if_pos (by omega)]
    simp only [jn_eq, vTupleL l hx, t3, bnd1_mk, not_true_eq_false, if_false, vSeqL l hx, t4, vSet l hl hx, rSet l hl, vMapW l q hl hx hxq, rMapX l q hl hq, d1, d2, vFunL k l (by omega) hx, m_law9_fun, t8, vProcL k l (by omega) hx, t9, e1]
    rw [i64_succ (by omega)]
    simp only [decide_false, Bool.false_eq_true, if_false]
    exact ih (i + 1) n k' y3.1 h (by omega) (by omega) (by omega) hg.2 (by omega) hh
end
theorem vmk_vals (L : List (List UInt8)) (hL : L.length ≤ 1000) (s : List Int × Int) (K : List (List UInt8) → Option Bool) : ∀ (m q n : Nat) (l : List Int) (i : Int) (out : List (List UInt8)), q + m = L.length → m < n → GS l i → out.length + m ≤ 1000 → (∀ x ∈ out, PV (max 2 1) (szV 2) x) →
    ∃ i' out', m_law9_ValueMakes_L2 (L, s) K n l i out q = K out' ∧ GS l i' ∧ out'.length = out.length + m ∧ ∀ x ∈ out', PV (max 2 1) (szV 2) x := by
  intro m
  induction m with
  | zero =>
    intro q n l i out hq hn hg ho hx
    obtain ⟨n, rfl⟩ : ∃ q, n = q + 1 := ⟨n - 1, by omega⟩
    exact ⟨i, out, by rw [m_law9_ValueMakes_L2, m_law9_ValueMakes_B2, if_neg (by simp only []; omega)], hg, rfl, hx⟩
  | succ m ih =>
    intro q n l i out hq hn hg ho hx
    obtain ⟨n, rfl⟩ : ∃ q, n = q + 1 := ⟨n - 1, by omega⟩
    obtain ⟨v, i1, e1, g1, p1⟩ := gValueP 2 (by omega) l i hg
    obtain ⟨i', out', h1, h2, h3, h4⟩ := ih (q + 1) n l i1 (out ++ [v]) (by omega) (by omega) g1 (by simp; omega) (fun x h => by
      rcases List.mem_append.1 h with h | h
      · exact hx x h
      · rw [List.mem_singleton.1 h]; exact p1)
    refine ⟨i', out', ?_, h2, by rw [h3]; simp; omega, h4⟩
    simp only [] at e1
    rw [show ((2 : Nat) : Int) = 2 from rfl] at e1
    rw [m_law9_ValueMakes_L2, m_law9_ValueMakes_B2, if_pos (by simp only []; omega), e1, bnd1_mk]
    simp only []
    rw [need_pos (by simp; omega), i64_succ (by omega), h1]
theorem valueMakes_true (a : Int) (b : Bool) (k : Int) (l m : List (List UInt8)) (c : List Int) (_ : (Lit.int .i64 a).wf = true) (_ : True) (_ : (Lit.int .i64 k).wf = true) (_ : l.length ≤ maxLen ∧ ∀ x ∈ l, x.length ≤ maxLen) (_ : m.length ≤ maxLen ∧ ∀ x ∈ m, x.length ≤ maxLen) (hc : c.length ≤ maxLen ∧ ∀ x ∈ c, (Lit.int .i64 x).wf = true)
    (hsz : 1 + 1 + 1 + (szL (fun x : List UInt8 => x.length + 1) l + 1) + (szL (fun x : List UInt8 => x.length + 1) m + 1) + (szL (fun _ : Int => 1) c + 1) ≤ 1048576) : m_law9_ValueMakes a b k l m c = some true := by
  have hFU := FU_ge
  have hl := szL_len (sz := fun x : List UInt8 => x.length + 1) (fun x => by omega) l
  have hm := szL_len (sz := fun x : List UInt8 => x.length + 1) (fun x => by omega) m
  have hxl : ∀ x ∈ l, x.length ≤ 1099511627776 := fun x hx => by have := szL_mem (sz := fun x : List UInt8 => x.length + 1) hx; omega
  have hxm : ∀ x ∈ m, x.length ≤ 1099511627776 := fun x hx => by have := szL_mem (sz := fun x : List UInt8 => x.length + 1) hx; omega
  unfold m_law9_ValueMakes m_gen_New
  obtain ⟨L, i1, e1, g1, hL, hp⟩ := gValuesP m_gen_Choices_Value 3 _ (gValueP 3 (by omega)) (gs_new9 hc) (most := 6) (by omega) (by omega)
  have hs3 : szV 3 = 204 := rfl
  have hs2 : szV 2 = 48 := rfl
  obtain ⟨n1, n2, n3, n4⟩ := name_same k
  have hbool : m_ref9_Bool b = m_value_Bool b := rfl
  obtain ⟨vb, hvb, _⟩ := rBoolW b
  simp only [bnd1_mk]
  rw [e1]
  simp only [bnd1_mk, jn_eq]
  obtain ⟨i2, h, h1, g2, h3, h4⟩ := vmk_vals L (by omega) (c, i1) (fun (x15_j4 : List (List UInt8)) => jn (fun (x55_j40 : Bool) => if x55_j40 then (some false) else (jn (fun (_ : Unit) => some true) (fun k55 => m_law9_ValueMakes_L4 (L, (c, i1)) k55 FU k l m x15_j4 0))) (fun k40 => bnd1 (m_law9_awake) (fun y48 => if !y48 then (k40 true) else (bnd1 (m_value_Int a) (fun y49 => bnd1 (m_ref9_Int a) (fun y50 => if ¬ y49 = y50 then (k40 true) else (bnd1 (m_value_Bool b) (fun y51 => bnd1 (m_ref9_Bool b) (fun y52 => if ¬ y51 = y52 then (k40 true) else (bnd1 (m_value_Name k) (fun y53 => bnd1 (m_ref9_Name k) (fun y54 => k40 (decide (¬ y53 = y54))))))))))))))
    L.length 0 FU c i1 [] (by omega) (by omega) g1 (by simp; omega) (by simp)
  have hv := vmk_loop (L, (c, i1)) (fun _ => some true) ⟨by simp only []; omega, fun x hx => by have := (hp x hx).2; omega⟩ h (by simp at h3; omega) (fun x hx => by have := (h4 x hx).2; omega) 2 0 FU k l m (by omega) (by omega) (by omega) hxl (by omega) hxm
  simp only [Int.natCast_zero, jn_eq] at h1 hv
  rw [h1]
  simp only [awake9_true, bnd1_mk, vInt, rInt, hbool, n3, n4, not_true_eq_false, if_false, decide_false, Bool.not_true, Bool.false_eq_true]
  rw [show m_value_Bool b = some vb from hvb]
  simp only [bnd1_mk, not_true_eq_false, if_false]
  exact hv
end Go.Proofs.YtdppkpiagdaigaaGreatDoor
/- ValueMakes: for every input the call returns true, and the arguments read as before. Condition: what the arguments hold is of bulk at most 1048576, as the given statement has it. -/
namespace Go.Proofs.YtdppkpiagdaigaaGreatDoor
open Go.ChangeShapes Go.WideShapes Go.ChangeAt Go.RowKit

theorem o_int64 : Opens Tryz.prog 2 1 (fun x : Int => [.exact (.int .i64 x)]) (fun _ => 1) (fun x => (Lit.int .i64 x).wf = true) := fun e0 W fuel cs y h => (opens_int Tryz.underlying2) e0 W fuel cs y h
theorem o_bool : Opens Tryz.prog 4 1 (fun x : Bool => [.exact (.bool x)]) (fun _ => 1) (fun _ => True) := fun e0 W fuel cs y h => (opens_bool Tryz.underlying4) e0 W fuel cs y h
theorem o_int : Opens Tryz.prog 3 1 (fun x : Int => [.exact (.int .i64 x)]) (fun _ => 1) (fun x => (Lit.int .i64 x).wf = true) := fun e0 W fuel cs y h => (opens_int Tryz.underlying3) e0 W fuel cs y h
theorem o_api_Value : Opens Tryz.prog 23 1 (fun x : List UInt8 => [.exact (.string (bs x))]) (fun x => x.length + 1) (fun x => x.length ≤ maxLen) := fun e0 W fuel cs y h => (opens_str Tryz.underlying23) e0 W fuel cs y h
theorem o_L_api_Value : Opens Tryz.prog 27 1 (fun xs : List (List UInt8) => [.row 1 c_api_Value xs]) (fun xs => szL (fun x => x.length + 1) xs + 1) (fun xs => xs.length ≤ maxLen ∧ ∀ x ∈ xs, (fun x => x.length ≤ maxLen) x) := fun e0 W fuel cs y h => (opens_slice Tryz.underlying27 (by kernel_rfl) (by decide) o_api_Value) e0 W fuel cs y h
theorem o_L_int : Opens Tryz.prog 22 1 (fun xs : List Int => [.row 1 c_int xs]) (fun xs => szL (fun _ => 1) xs + 1) (fun xs => xs.length ≤ maxLen ∧ ∀ x ∈ xs, (fun x => (Lit.int .i64 x).wf = true) x) := fun e0 W fuel cs y h => (opens_slice Tryz.underlying22 (by kernel_rfl) (by decide) o_int) e0 W fuel cs y h
theorem door_met (os : Os) (args : Array Value) : laidMetH Tryz.prog Rows.valueMakesUptoRow.laid ((World.doorLaid Tryz.prog 400 os).forCall (fun _ _ => 0) ⟨#[], args, []⟩).memory :=
  laidMetH_of_parts3 (fuel := 8) (laidMet_of_run' 8 (by kernel_rfl) (by kernel_rfl)) (by kernel_rfl) (by kernel_rfl)
theorem witness_row (os : Os) {H : Type} (enc : TypeId × Value → H) :
    (Rows.OpenSpec.upto Rows.valueMakesSpec).preRow enc Tryz.prog Tryz.f7 Rows.valueMakesUptoRow.domain false Rows.valueMakesUptoRow.laid ((World.doorLaid Tryz.prog 400 os).forCall (fun _ _ => 0) ⟨#[], #[.int .i64 0, .bool false, .int .i64 0, .slice none 0 0, .slice none 0 0, .slice none 0 0], []⟩).memory #[.int .i64 0, .bool false, .int .i64 0, .slice none 0 0, .slice none 0 0, .slice none 0 0] := by
  have hw : (DataW.whole enc Tryz.prog ((World.doorLaid Tryz.prog 400 os).forCall (fun _ _ => 0) ⟨#[], #[.int .i64 0, .bool false, .int .i64 0, .slice none 0 0, .slice none 0 0, .slice none 0 0], []⟩).memory Tryz.f7.params.toList (Rows.OpenSpec.upto Rows.valueMakesSpec).vars false #[.int .i64 0, .bool false, .int .i64 0, .slice none 0 0, .slice none 0 0, .slice none 0 0].toList 8).map (fun x => (x.1, x.2.1)) =
      some ([.lit (.int .i64 0), .lit (.bool false), .lit (.int .i64 0), .nil, .nil, .nil], []) := by kernel_rfl
  obtain ⟨⟨x1, x2, x3⟩, hx, hx1⟩ := Option.map_eq_some_iff.1 hw
  simp only [Prod.mk.injEq] at hx1
  obtain ⟨rfl, rfl⟩ := hx1
  exact OpenSpec.preRow_of_cond 8 hx (by kernel_rfl) (fun k hk => by cases hk; kernel_rfl) (by kernel_rfl) (door_met os _)
set_option maxRecDepth 100000 in
theorem valueMakes_lifted (os : Os) (started : os.Started) (H : Type) (enc : TypeId × Value → H) (F : Stop.Interp) :
    ReturnsInHanded {} Tryz.checked os 7 .any ((Rows.OpenSpec.upto Rows.valueMakesSpec).preRow enc Tryz.prog Tryz.f7 Rows.valueMakesUptoRow.domain false Rows.valueMakesUptoRow.laid) (((Rows.OpenSpec.upto Rows.valueMakesSpec).at F).post enc Tryz.prog Tryz.f7 false true false false) := by
  refine returnsInHanded_of_row (C := Tryz.checked) (s := (Rows.OpenSpec.upto Rows.valueMakesSpec)) Tryz.own started (by kernel_rfl) Tryz.func7
    (witness_row_atRef (enc := enc) (C := Tryz.checked) false (World.doorLaid Tryz.prog 400 os) #[.int .i64 0, .bool false, .int .i64 0, .slice none 0 0, .slice none 0 0, .slice none 0 0] rfl (by kernel_rfl) (by kernel_rfl) (by kernel_rfl) (witness_row os enc)) ?_
  intro W base args ds gs before hval0 hW _ hk0 _ hL _ _
  have hk := hk0 _ rfl
  have hval : ∀ (j : Nat) t v, Tryz.f7.params[j]? = some t → args[j]? = some v → Value.okWide Tryz.prog W .any base t v := hval0
  have hW' := hW
  obtain ⟨p, q, hA0, hV, rfl, hfz, hnd⟩ := hW
  have hA : DataW.TrodAll enc Tryz.prog W 0 (fun _ => true) true Tryz.f7.params.toList args.toList ds p := hA0
  rw [Tryz.params7] at hA hval
  obtain ⟨v0, vs0, d0, ds0, p0, q0, hargs, rfl, rfl, h0, r0⟩ := trodAll_cons hA
  obtain ⟨v1, vs1, d1, ds1, p1, q1, rfl, rfl, rfl, h1, r1⟩ := trodAll_cons r0
  obtain ⟨v2, vs2, d2, ds2, p2, q2, rfl, rfl, rfl, h2, r2⟩ := trodAll_cons r1
  obtain ⟨v3, vs3, d3, ds3, p3, q3, rfl, rfl, rfl, h3, r3⟩ := trodAll_cons r2
  obtain ⟨v4, vs4, d4, ds4, p4, q4, rfl, rfl, rfl, h4, r4⟩ := trodAll_cons r3
  obtain ⟨v5, vs5, d5, ds5, p5, q5, rfl, rfl, rfl, h5, r5⟩ := trodAll_cons r4
  obtain ⟨rfl, rfl, rfl⟩ := trodAll_nil r5
  obtain rfl : args = #[v0, v1, v2, v3, v4, v5] := by cases args; simp_all
  obtain ⟨rfl, rfl⟩ := trodVars_none hV
  clear hA0
  simp only [List.append_nil] at hW'
  have hlt := hW'.lt
  obtain ⟨x0, qq0, g0, s0⟩ := arg_open o_int64 (plain_int Tryz.underlying2 (hval 0 2 v0 rfl rfl)) h0
  obtain ⟨x1, qq1, g1, s1⟩ := arg_open o_bool (plain_bool Tryz.underlying4 (hval 1 4 v1 rfl rfl)) h1
  obtain ⟨x2, qq2, g2, s2⟩ := arg_open o_int (plain_int Tryz.underlying3 (hval 2 3 v2 rfl rfl)) h2
  obtain ⟨x3, qq3, g3, s3⟩ := arg_open o_L_api_Value (plain_slice Tryz.underlying27 (hval 3 27 v3 rfl rfl)) h3
  obtain ⟨x4, qq4, g4, s4⟩ := arg_open o_L_api_Value (plain_slice Tryz.underlying27 (hval 4 27 v4 rfl rfl)) h4
  obtain ⟨x5, qq5, g5, s5⟩ := arg_open o_L_int (plain_slice Tryz.underlying22 (hval 5 22 v5 rfl rfl)) h5
  have hsz : (fun _ => 1) x0 + (fun _ => 1) x1 + (fun _ => 1) x2 + (fun xs => szL (fun x => x.length + 1) xs + 1) x3 + (fun xs => szL (fun x => x.length + 1) xs + 1) x4 + (fun xs => szL (fun _ => 1) xs + 1) x5 ≤ 1048576 := by
    have hk' := of_decide_eq_true hk
    simp only [List.append_nil, Rows.uptoBulkAll] at hk'
    try simp only [] at s0 s1 s2 s3 s4 s5
    try simp only []
    omega
  refine (Pure.call (m_law9_ValueMakes_ok x0 x1 x2 x3 x4 x5 true (valueMakes_true x0 x1 x2 x3 x4 x5 qq0 qq1 qq2 qq3 qq4 qq5 hsz)) (vs := [v0, v1, v2, v3, v4, v5]) ⟨g0.1, g1.1, g2.1, g3.1, g4.1, g5.1, trivial⟩).mono fun e W' ⟨he, hb⟩ => ?_
  subst he
  exact ⟨_, rfl, post_of_below (pa := p0 ++ (p1 ++ (p2 ++ (p3 ++ (p4 ++ (p5 ++ [])))))) (pv := []) hW' (fun _ _ _ => trodAll_cons_mk (shut_bool Tryz.underlying4 true) trodAll_mk0)
    (fun sp hsp => trodAll_cons_mk (trod_after (by kernel_rfl) (of_decide_eq_true (by kernel_rfl)) h0 hb (fun x hx => hlt x (by simp [hx])) (fun x hx => by simp [hx]) sp hsp) (trodAll_cons_mk (trod_after (by kernel_rfl) (of_decide_eq_true (by kernel_rfl)) h1 hb (fun x hx => hlt x (by simp [hx])) (fun x hx => by simp [hx]) sp hsp) (trodAll_cons_mk (trod_after (by kernel_rfl) (of_decide_eq_true (by kernel_rfl)) h2 hb (fun x hx => hlt x (by simp [hx])) (fun x hx => by simp [hx]) sp hsp) (trodAll_cons_mk (trod_after (by kernel_rfl) (of_decide_eq_true (by kernel_rfl)) h3 hb (fun x hx => hlt x (by simp [hx])) (fun x hx => by simp [hx]) sp hsp) (trodAll_cons_mk (trod_after (by kernel_rfl) (of_decide_eq_true (by kernel_rfl)) h4 hb (fun x hx => hlt x (by simp [hx])) (fun x hx => by simp [hx]) sp hsp) (trodAll_cons_mk (trod_after (by kernel_rfl) (of_decide_eq_true (by kernel_rfl)) h5 hb (fun x hx => hlt x (by simp [hx])) (fun x hx => by simp [hx]) sp hsp) (trodAll_mk0)))))))
    (fun _ _ => rfl) (by simp) hb (ok_one (by kernel_rfl) rfl (okWide_bool_mk Tryz.underlying4 true))⟩

theorem valueMakes_holds : Rows.ValueMakesUptoSaid :=
  OpenClaim.holds_of_cond 7 Tryz.f7 rfl rfl rfl rfl rfl rfl rfl ⟨rfl, rfl, rfl, rfl, rfl⟩ rfl rfl rfl rfl rfl (by kernel_rfl) Tryz.func7 (by kernel_rfl)
    (of_decide_eq_true (by kernel_rfl)) (by unfold Func.isWrapper; first | (rw [if_pos (by decide +kernel)]; kernel_rfl) | (rw [if_neg (by decide +kernel)]; exact ⟨rfl, rfl⟩))
    (fun os started H enc _ F => by rw [OpenClaim.pre_eq_preRow]; exact valueMakes_lifted os started H enc F)

theorem valueMakes_card_holds : Rows.ValueMakesUptoCardSaid :=
  Claim7.holds_tied_plain_at .later [] [.data, .data, .data] true (true, "b3b43adb5d04f2858f10d6b746ae22995ac7dd36e256823d593a58e5c0256bde") false
    valueMakes_holds (fun _ h => by cases h) (by kernel_rfl) (fun _ h => by cases h) valueMakesUpto_row_tie rfl ⟨rfl, rfl⟩ (by kernel_rfl) rfl
    (fun f fn hf hfn => by
      obtain rfl : f = 7 := Option.some.inj ((show Tryz.prog.funcNamed "cspcheck/cspchecklaw9.ValueMakes" = some 7 by kernel_rfl).symm.trans hf) |>.symm
      obtain rfl : fn = Tryz.f7 := (Option.some.inj (Tryz.func7.symm.trans hfn)).symm
      exact ⟨by kernel_rfl, fun j t ht => by
        rw [Tryz.params7] at ht
        have hm : t ∈ [2, 4, 3, 27, 27, 22] := by simpa using Array.mem_of_getElem? ht
        have hall : ([2, 4, 3, 27, 27, 22].all fun u => !Tryz.prog.wantsStandIn u) = true := by kernel_rfl
        exact (show Tryz.prog.wantsStandIn t = false by simpa using List.all_eq_true.1 hall t hm)⟩)
    (by kernel_rfl)
end Go.Proofs.YtdppkpiagdaigaaGreatDoor
