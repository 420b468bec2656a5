/- slices.SortFunc at pairs under compare: the contract, by the shelf's. -/
import Derived.Test.YtkplmgdmkfgjhaaTy
import Derived.Test.YtkplmgdmkfgjhaaCj
import Derived.Test.YtkplmgdmkfgjhaaDd
import Derived.Test.YtkplmgdmkfgjhaaSm
namespace Go.Proofs.Ytkplmgdmkfgjhaa
open Go.RowKit Go.Sort

set_option maxRecDepth 100000 in
def sortl_ren : Go.Shelf.Ren := ⟨fun | 6 => 64 | 14 => 89 | 15 => 90 | 20 => 104 | 21 => 105 | 22 => 106 | 23 => 107 | 24 => 108 | 25 => 109 | 26 => 110 | 27 => 111 | 28 => 112 | 29 => 113 | 46 => 116 | 47 => 117 | 48 => 118 | 49 => 119 | 50 => 120 | 57 => 130 | n => n, fun | 0 => 0 | 3 => 3 | 4 => 4 | 5 => 5 | 9 => 9 | 22 => 23 | 24 => 29 | 25 => 96 | 39 => 77 | 45 => 132 | 46 => 133 | 50 => 94 | 53 => 75 | 55 => 140 | 66 => 143 | 70 => 147 | 76 => 155 | 77 => 156 | n => n, fun n => n⟩
set_option maxRecDepth 100000 in
theorem sortl : Go.Proofs.SlLaysF0.n6 Try.prog sortl_ren where
  mixed := by kernel_rfl
  f6 := ⟨Try.f64.name, by kernel_rfl, Try.func64.trans (congrArg some (by kernel_rfl))⟩
  f14 := ⟨Try.f89.name, by kernel_rfl, Try.func89.trans (congrArg some (by kernel_rfl))⟩
  f15 := Try.func90.trans (congrArg some (by kernel_rfl))
  f20 := ⟨Try.f104.name, by kernel_rfl, Try.func104.trans (congrArg some (by kernel_rfl))⟩
  f21 := ⟨Try.f105.name, by kernel_rfl, Try.func105.trans (congrArg some (by kernel_rfl))⟩
  f22 := ⟨Try.f106.name, by kernel_rfl, Try.func106.trans (congrArg some (by kernel_rfl))⟩
  f23 := ⟨Try.f107.name, by kernel_rfl, Try.func107.trans (congrArg some (by kernel_rfl))⟩
  f24 := ⟨Try.f108.name, by kernel_rfl, Try.func108.trans (congrArg some (by kernel_rfl))⟩
  f25 := ⟨Try.f109.name, by kernel_rfl, Try.func109.trans (congrArg some (by kernel_rfl))⟩
  f26 := ⟨Try.f110.name, by kernel_rfl, Try.func110.trans (congrArg some (by kernel_rfl))⟩
  f27 := ⟨Try.f111.name, by kernel_rfl, Try.func111.trans (congrArg some (by kernel_rfl))⟩
  f28 := Try.func112.trans (congrArg some (by kernel_rfl))
  f29 := Try.func113.trans (congrArg some (by kernel_rfl))
  f46 := ⟨Try.f116.name, by kernel_rfl, Try.func116.trans (congrArg some (by kernel_rfl))⟩
  f47 := Try.func117.trans (congrArg some (by kernel_rfl))
  f48 := Try.func118.trans (congrArg some (by kernel_rfl))
  f49 := ⟨Try.f119.name, by kernel_rfl, Try.func119.trans (congrArg some (by kernel_rfl))⟩
  f50 := ⟨Try.f120.name, by kernel_rfl, Try.func120.trans (congrArg some (by kernel_rfl))⟩
  f57 := ⟨Try.f130.name, by kernel_rfl, Try.func130.trans (congrArg some (by kernel_rfl))⟩
  t0 := Try.underlying0
  a0 := Try.isAgg0
  z0 := Try.sizeOf0
  v0 := Try.zeroValue0
  t3 := Try.underlying3
  a3 := Try.isAgg3
  z3 := Try.sizeOf3
  v3 := Try.zeroValue3
  t4 := Try.underlying4
  a4 := Try.isAgg4
  z4 := Try.sizeOf4
  v4 := Try.zeroValue4
  t5 := Try.underlying5
  a5 := Try.isAgg5
  z5 := Try.sizeOf5
  v5 := Try.zeroValue5
  t9 := Try.underlying9
  a9 := Try.isAgg9
  z9 := Try.sizeOf9
  v9 := Try.zeroValue9
  t22 := Try.underlying23
  a22 := Try.isAgg23
  z22 := Try.sizeOf23
  v22 := Try.zeroValue23
  t25 := Try.underlying96
  a25 := Try.isAgg96
  z25 := Try.sizeOf96
  v25 := Try.zeroValue96
  t39 := Try.underlying77
  a39 := Try.isAgg77
  z39 := Try.sizeOf77
  v39 := Try.zeroValue77
  t45 := Try.underlying132
  a45 := Try.isAgg132
  z45 := Try.sizeOf132
  v45 := Try.zeroValue132
  t46 := Try.underlying133
  a46 := Try.isAgg133
  z46 := Try.sizeOf133
  v46 := Try.zeroValue133
  t50 := Try.underlying94
  a50 := Try.isAgg94
  z50 := Try.sizeOf94
  v50 := Try.zeroValue94
  t53 := Try.underlying75
  a53 := Try.isAgg75
  z53 := Try.sizeOf75
  v53 := Try.zeroValue75
  t55 := Try.underlying140
  a55 := Try.isAgg140
  z55 := Try.sizeOf140
  v55 := Try.zeroValue140
  t66 := Try.underlying143
  a66 := Try.isAgg143
  z66 := Try.sizeOf143
  v66 := Try.zeroValue143
  t70 := Try.underlying147
  a70 := Try.isAgg147
  z70 := Try.sizeOf147
  v70 := Try.zeroValue147
  t76 := Try.underlying155
  a76 := Try.isAgg155
  z76 := Try.sizeOf155
  v76 := Try.zeroValue155
  t77 := Try.underlying156
  a77 := Try.isAgg156
  z77 := Try.sizeOf156
  v77 := Try.zeroValue156


def cfP (p q : Int × Int) : Int := if LtP p q then -1 else if p = q then 0 else 1
theorem ltOf_cfP (p q : Int × Int) : ltOf cfP p q = decide (LtP p q) := by
  unfold ltOf cfP
  by_cases h : LtP p q
  · simp [h]
  · by_cases h2 : p = q
    · subst h2; simp [h]
    · simp [h, h2]
theorem swo_cfP : SWO (ltOf cfP) where
  irrefl x := by rw [ltOf_cfP]; simp [LtP]
  trans x y z := by simp only [ltOf_cfP, decide_eq_true_eq]; unfold LtP; omega
  ntrans x y z := by simp only [ltOf_cfP, decide_eq_false_iff_not]; unfold LtP; omega
theorem part_cfP (x y : Int × Int) : ltOf cfP x y = false → ltOf cfP y x = false → x = y := by
  obtain ⟨a, b⟩ := x
  obtain ⟨c, d⟩ := y
  simp only [ltOf_cfP, decide_eq_false_iff_not, Prod.mk.injEq]; unfold LtP; simp only []; omega

theorem m_sortP_ok (hc : ∀ (a0 a1 : Int × Int) (r : Int), m_frontier_compare a0 a1 = some r → Pure Try.prog 61 [(.agg (c_A2_int a0)), (.agg (c_A2_int a1))] (.exact (.int .i64 r))) {w0 : Value} (a0 : List (Int × Int)) (r : List (Int × Int)) (h : m_sortP a0 = some r) :
    Fun Try.prog 64 [.exact w0, .exact (.func (.func 61) #[] #[])] [vecT Try.prog 23 2 c_A2_int w0 a0] (fun a s => a = .tup [] ∧ s = [vecT Try.prog 23 2 c_A2_int w0 r]) := by
  obtain ⟨h1, h2⟩ := need_some h
  cases h2
  have hs : sortP a0 = a0.mergeSort fun x y => !(ltOf cfP) y x := by
    unfold sortP
    congr 1
    funext x y
    rw [ltOf_cfP]
    rfl
  rw [hs]
  exact sortFunc_fun (enc := fun p : Int × Int => [.int .i64 p.1, .int .i64 p.2]) sortl Try.isAgg29 Try.sizeOf29 (fun _ => rfl) (fun _ => rfl) (fun x v hv => by simp at hv; rcases hv with rfl | rfl <;> rfl) cfP swo_cfP part_cfP 61
    (fun args w => by exact enters_of Try.func61 (by kernel_rfl) rfl args w) (fun x y => hc x y _ (fCompare x y)) w0 a0 h1 23
end Go.Proofs.Ytkplmgdmkfgjhaa
