/- The laws of layer 15 on orders, for what the arguments hold. -/
import Derived.Test.YtkbbeeeoogjknaaQA1
import Derived.Test.YtkbbeeeoogjknaaQA3
import Derived.Test.YtkbbeeeoogjknaaQA5
namespace Go.Proofs.Ytkbbeeeoogjknaa
attribute [local irreducible] FU

theorem alphabetOrders_true (o : List (Int × Int)) (s c : List Int) (_ : o.length ≤ maxLen ∧ ∀ y ∈ o, (Lit.int .i64 y.1).wf = true ∧ (Lit.int .i64 y.2).wf = true) (_ : s.length ≤ maxLen ∧ ∀ y ∈ s, (Lit.int .i64 y).wf = true) (_ : c.length ≤ maxLen ∧ ∀ y ∈ c, (Lit.int .i64 y).wf = true)
    (hsz : (szL (fun _ : Int × Int => 1 + 1) o + 1) + (szL (fun _ : Int => 1) s + 1) + (szL (fun _ : Int => 1) c + 1) ≤ 1048576) : m_law15_AlphabetOrders o s c = some true := by
  have h1 := szL_len (sz := fun _ : Int × Int => 1 + 1) (fun x => by omega) o
  have h2 := szL_len (sz := fun _ : Int => 1) (fun x => by omega) s
  have h3 := szL_len (sz := fun _ : Int => 1) (fun x => by omega) c
  exact alphabetOrders_T o s c (by omega) (by omega) (by omega)
end Go.Proofs.Ytkbbeeeoogjknaa
/- AlphabetOrders: for every input the call returns true, and the arguments read as before. Condition: what the arguments hold is of bulk at most 1048576, as the given statement has it. -/
namespace Go.Proofs.Ytkbbeeeoogjknaa
open Go.ChangeShapes Go.WideShapes Go.ChangeAt Go.RowKit

theorem o_int : Opens Try.prog 3 1 (fun x : Int => [.exact (.int .i64 x)]) (fun _ => 1) (fun x => (Lit.int .i64 x).wf = true) := fun e0 W fuel cs y h => (opens_int Try.underlying3) e0 W fuel cs y h
theorem o_api_Above : Opens Try.prog 29 2 c_api_Above (fun x => (fun _ => 1) x.1 + (fun _ => 1) x.2) (fun x => (fun x => (Lit.int .i64 x).wf = true) x.1 ∧ (fun x => (Lit.int .i64 x).wf = true) x.2) := fun e0 W fuel cs y h => (opens_struct2 Try.underlying29 (by kernel_rfl) rfl rfl (by kernel_rfl) (by kernel_rfl) o_int o_int) e0 W fuel cs y h
theorem o_L_api_Above : Opens Try.prog 22 1 (fun xs : List (Int × Int) => [.row 2 c_api_Above xs]) (fun xs => szL (fun x => (fun _ => 1) x.1 + (fun _ => 1) x.2) xs + 1) (fun xs => xs.length ≤ maxLen ∧ ∀ x ∈ xs, (fun x => (fun x => (Lit.int .i64 x).wf = true) x.1 ∧ (fun x => (Lit.int .i64 x).wf = true) x.2) x) := fun e0 W fuel cs y h => (opens_slice Try.underlying22 (by kernel_rfl) (by decide) o_api_Above) e0 W fuel cs y h
theorem o_L_int : Opens Try.prog 23 1 (fun xs : List Int => [.row 1 c_int xs]) (fun xs => szL (fun _ => 1) xs + 1) (fun xs => xs.length ≤ maxLen ∧ ∀ x ∈ xs, (fun x => (Lit.int .i64 x).wf = true) x) := fun e0 W fuel cs y h => (opens_slice Try.underlying23 (by kernel_rfl) (by decide) o_int) e0 W fuel cs y h
set_option maxRecDepth 100000 in
theorem alphabetOrders_lifted (os : Os) (started : os.Started) (H : Type) (enc : TypeId × Value → H) (F : Stop.Interp) :
    ReturnsInHanded {} Try.checked os 3 .any ((Rows.OpenSpec.upto Rows.alphabetOrdersSpec).pre6 enc Try.prog Try.f3 Rows.alphabetOrdersUptoRow.domain false) (((Rows.OpenSpec.upto Rows.alphabetOrdersSpec).at F).post enc Try.prog Try.f3 false true false false) := by
  refine returnsInHanded_of_cond (C := Try.checked) (s := Rows.OpenSpec.upto Rows.alphabetOrdersSpec) (k := Rows.uptoSmall) rfl Try.own started (by kernel_rfl) Try.func3
    (OpenSpec.witness (enc := enc) (C := Try.checked) (s := Rows.OpenSpec.upto Rows.alphabetOrdersSpec) (k := Rows.uptoSmall) rfl false ⟨#[], #[.slice none 0 0, .slice none 0 0, .slice none 0 0], []⟩ 8 (by kernel_rfl) (by kernel_rfl) (by kernel_rfl)
      (x := ([.nil, .nil, .nil], [], [])) (by kernel_rfl) rfl (by kernel_rfl)) ?_
  intro W base args ds gs before hval0 hW _ hk _
  have hval : ∀ (j : Nat) t v, Try.f3.params[j]? = some t → args[j]? = some v → Value.okWide Try.prog W .any base t v := hval0
  have hW' := hW
  obtain ⟨p, q, hA0, hV, rfl, hfz, hnd⟩ := hW
  have hA : DataW.TrodAll enc Try.prog W 0 (fun _ => true) true Try.f3.params.toList args.toList ds p := hA0
  rw [Try.params3] at hA hval
  obtain ⟨v0, vs0, d0, ds0, p0, q0, hargs, rfl, rfl, h0, r0⟩ := trodAll_cons hA
  obtain ⟨v1, vs1, d1, ds1, p1, q1, rfl, rfl, rfl, h1, r1⟩ := trodAll_cons r0
  obtain ⟨v2, vs2, d2, ds2, p2, q2, rfl, rfl, rfl, h2, r2⟩ := trodAll_cons r1
  obtain ⟨rfl, rfl, rfl⟩ := trodAll_nil r2
  obtain rfl : args = #[v0, v1, v2] := by cases args; simp_all
  obtain ⟨rfl, rfl⟩ := trodVars_none hV
  clear hA0
  simp only [List.append_nil] at hW'
  have hlt := hW'.lt
  obtain ⟨x0, qq0, g0, s0⟩ := arg_open o_L_api_Above (plain_slice Try.underlying22 (hval 0 22 v0 rfl rfl)) h0
  obtain ⟨x1, qq1, g1, s1⟩ := arg_open o_L_int (plain_slice Try.underlying23 (hval 1 23 v1 rfl rfl)) h1
  obtain ⟨x2, qq2, g2, s2⟩ := arg_open o_L_int (plain_slice Try.underlying23 (hval 2 23 v2 rfl rfl)) h2
  have hsz : (fun xs => szL (fun x => (fun _ => 1) x.1 + (fun _ => 1) x.2) xs + 1) x0 + (fun xs => szL (fun _ => 1) xs + 1) x1 + (fun xs => szL (fun _ => 1) xs + 1) x2 ≤ 1048576 := by
    have hk' := of_decide_eq_true hk
    simp only [List.append_nil, Rows.uptoBulkAll] at hk'
    try simp only [] at s0 s1 s2
    try simp only []
    omega
  refine (Pure.call (m_law15_AlphabetOrders_ok x0 x1 x2 true (alphabetOrders_true x0 x1 x2 qq0 qq1 qq2 hsz)) (vs := [v0, v1, v2]) ⟨g0.1, g1.1, g2.1, trivial⟩).mono fun e W' ⟨he, hb⟩ => ?_
  subst he
  exact ⟨_, rfl, post_of_below (pa := p0 ++ (p1 ++ (p2 ++ []))) (pv := []) hW' (fun _ _ _ => trodAll_cons_mk (shut_bool Try.underlying4 true) trodAll_mk0)
    (fun sp hsp => trodAll_cons_mk (trod_after (by kernel_rfl) (of_decide_eq_true (by kernel_rfl)) h0 hb (fun x hx => hlt x (by simp [hx])) (fun x hx => by simp [hx]) sp hsp) (trodAll_cons_mk (trod_after (by kernel_rfl) (of_decide_eq_true (by kernel_rfl)) h1 hb (fun x hx => hlt x (by simp [hx])) (fun x hx => by simp [hx]) sp hsp) (trodAll_cons_mk (trod_after (by kernel_rfl) (of_decide_eq_true (by kernel_rfl)) h2 hb (fun x hx => hlt x (by simp [hx])) (fun x hx => by simp [hx]) sp hsp) (trodAll_mk0))))
    (fun _ _ => rfl) (by simp) hb (ok_one (by kernel_rfl) rfl (okWide_bool_mk Try.underlying4 true))⟩

theorem alphabetOrders_holds : Rows.AlphabetOrdersUptoSaid :=
  OpenClaim.holds_of_cond 3 Try.f3 rfl rfl rfl rfl rfl rfl rfl ⟨rfl, rfl, rfl, rfl, rfl⟩ rfl rfl rfl rfl rfl (by kernel_rfl) Try.func3 (by kernel_rfl)
    (of_decide_eq_true (by kernel_rfl)) (by unfold Func.isWrapper; first | (rw [if_pos (by decide +kernel)]; kernel_rfl) | (rw [if_neg (by decide +kernel)]; exact ⟨rfl, rfl⟩))
    (fun os started H enc _ F => alphabetOrders_lifted os started H enc F)

end Go.Proofs.Ytkbbeeeoogjknaa
