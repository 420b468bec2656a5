/- Types and their cells, by program. -/
import Derived.Test.YtdppkpiagdaigaaGreatDoorQv4
import Derived.Test.YtdppkpiagdaigaaGreatDoorQv1
import Derived.Test.YtdppkpiagdaigaaGreatDoorQv0
import Derived.Shelf.Strings.OnBuilder
import Derived.Shelf.Strconv.Itoa4
import Derived.Lib.LaidTab
import Derived.LaidSub
namespace Go.Proofs.YtdppkpiagdaigaaGreatDoor
open Go.RowKit
abbrev c_int (x : Int) : List AV := [.exact (.int .i64 x)]
abbrev c_string (x : List UInt8) : List AV := [.exact (.string (bs x))]
theorem len_c_string (x : List UInt8) : (c_string x).length = 1 := rfl
theorem oc_c_string (x : List UInt8) : OneC (c_string x) := (OneC.str OneC.nil)
abbrev c_cspcheckgen_Choices (x : (List Int) × Int) : List AV := [.row 1 c_int x.1, .exact (.int .i64 x.2)]
abbrev c_uint8 (x : UInt8) : List AV := [.exact (.int .u8 (UInt8.toNat x : Int))]
theorem len_c_uint8 (x : UInt8) : (c_uint8 x).length = 1 := rfl
theorem oc_c_uint8 (x : UInt8) : OneC (c_uint8 x) := (OneC.int OneC.nil)
abbrev c_api_Value (x : List UInt8) : List AV := [.exact (.string (bs x))]
theorem len_c_api_Value (x : List UInt8) : (c_api_Value x).length = 1 := rfl
theorem oc_c_api_Value (x : List UInt8) : OneC (c_api_Value x) := (OneC.str OneC.nil)

end Go.Proofs.YtdppkpiagdaigaaGreatDoor
/- The sorts' contracts, laid by program. -/
namespace Go.Proofs.YtdppkpiagdaigaaGreatDoor
open Go.RowKit Go.Sort
set_option maxRecDepth 100000
def lay0_ren : Go.Shelf.Ren := ⟨fun | 6 => 81 | 14 => 100 | 15 => 90 | 20 => 120 | 21 => 121 | 22 => 122 | 23 => 123 | 24 => 124 | 25 => 125 | 26 => 126 | 27 => 127 | 28 => 109 | 29 => 110 | 46 => 141 | 47 => 129 | 48 => 130 | 49 => 142 | 50 => 143 | 57 => 147 | n => n, fun | 0 => 0 | 3 => 3 | 4 => 4 | 5 => 5 | 9 => 9 | 22 => 27 | 24 => 23 | 25 => 28 | 39 => 58 | 45 => 101 | 46 => 102 | 50 => 106 | 53 => 109 | 55 => 62 | 66 => 123 | 70 => 127 | 76 => 138 | 77 => 139 | n => n, fun n => n⟩
theorem lay0 : Go.Proofs.SlLaysF.n6 Tryz.prog lay0_ren where
  mixed := by kernel_rfl
  f6 := ⟨Tryz.f81.name, by kernel_rfl, Tryz.func81.trans (congrArg some (by kernel_rfl))⟩
  f14 := ⟨Tryz.f100.name, by kernel_rfl, Tryz.func100.trans (congrArg some (by kernel_rfl))⟩
  f15 := Tryz.func90.trans (congrArg some (by kernel_rfl))
  f20 := ⟨Tryz.f120.name, by kernel_rfl, Tryz.func120.trans (congrArg some (by kernel_rfl))⟩
  f21 := ⟨Tryz.f121.name, by kernel_rfl, Tryz.func121.trans (congrArg some (by kernel_rfl))⟩
  f22 := ⟨Tryz.f122.name, by kernel_rfl, Tryz.func122.trans (congrArg some (by kernel_rfl))⟩
  f23 := ⟨Tryz.f123.name, by kernel_rfl, Tryz.func123.trans (congrArg some (by kernel_rfl))⟩
  f24 := ⟨Tryz.f124.name, by kernel_rfl, Tryz.func124.trans (congrArg some (by kernel_rfl))⟩
  f25 := ⟨Tryz.f125.name, by kernel_rfl, Tryz.func125.trans (congrArg some (by kernel_rfl))⟩
  f26 := ⟨Tryz.f126.name, by kernel_rfl, Tryz.func126.trans (congrArg some (by kernel_rfl))⟩
  f27 := ⟨Tryz.f127.name, by kernel_rfl, Tryz.func127.trans (congrArg some (by kernel_rfl))⟩
  f28 := Tryz.func109.trans (congrArg some (by kernel_rfl))
  f29 := Tryz.func110.trans (congrArg some (by kernel_rfl))
  f46 := ⟨Tryz.f141.name, by kernel_rfl, Tryz.func141.trans (congrArg some (by kernel_rfl))⟩
  f47 := Tryz.func129.trans (congrArg some (by kernel_rfl))
  f48 := Tryz.func130.trans (congrArg some (by kernel_rfl))
  f49 := ⟨Tryz.f142.name, by kernel_rfl, Tryz.func142.trans (congrArg some (by kernel_rfl))⟩
  f50 := ⟨Tryz.f143.name, by kernel_rfl, Tryz.func143.trans (congrArg some (by kernel_rfl))⟩
  f57 := ⟨Tryz.f147.name, by kernel_rfl, Tryz.func147.trans (congrArg some (by kernel_rfl))⟩
  t0 := Tryz.underlying0
  a0 := Tryz.isAgg0
  z0 := Tryz.sizeOf0
  v0 := Tryz.zeroValue0
  t3 := Tryz.underlying3
  a3 := Tryz.isAgg3
  z3 := Tryz.sizeOf3
  v3 := Tryz.zeroValue3
  t4 := Tryz.underlying4
  a4 := Tryz.isAgg4
  z4 := Tryz.sizeOf4
  v4 := Tryz.zeroValue4
  t5 := Tryz.underlying5
  a5 := Tryz.isAgg5
  z5 := Tryz.sizeOf5
  v5 := Tryz.zeroValue5
  t9 := Tryz.underlying9
  a9 := Tryz.isAgg9
  z9 := Tryz.sizeOf9
  v9 := Tryz.zeroValue9
  t22 := Tryz.underlying27
  a22 := Tryz.isAgg27
  z22 := Tryz.sizeOf27
  v22 := Tryz.zeroValue27
  a24 := Tryz.isAgg23
  z24 := Tryz.sizeOf23
  t25 := Tryz.underlying28
  a25 := Tryz.isAgg28
  z25 := Tryz.sizeOf28
  v25 := Tryz.zeroValue28
  t39 := Tryz.underlying58
  a39 := Tryz.isAgg58
  z39 := Tryz.sizeOf58
  v39 := Tryz.zeroValue58
  t45 := Tryz.underlying101
  a45 := Tryz.isAgg101
  z45 := Tryz.sizeOf101
  v45 := Tryz.zeroValue101
  t46 := Tryz.underlying102
  a46 := Tryz.isAgg102
  z46 := Tryz.sizeOf102
  v46 := Tryz.zeroValue102
  t50 := Tryz.underlying106
  a50 := Tryz.isAgg106
  z50 := Tryz.sizeOf106
  v50 := Tryz.zeroValue106
  t53 := Tryz.underlying109
  a53 := Tryz.isAgg109
  z53 := Tryz.sizeOf109
  v53 := Tryz.zeroValue109
  t55 := Tryz.underlying62
  a55 := Tryz.isAgg62
  z55 := Tryz.sizeOf62
  v55 := Tryz.zeroValue62
  t66 := Tryz.underlying123
  a66 := Tryz.isAgg123
  z66 := Tryz.sizeOf123
  v66 := Tryz.zeroValue123
  t70 := Tryz.underlying127
  a70 := Tryz.isAgg127
  z70 := Tryz.sizeOf127
  v70 := Tryz.zeroValue127
  t76 := Tryz.underlying138
  a76 := Tryz.isAgg138
  z76 := Tryz.sizeOf138
  v76 := Tryz.zeroValue138
  t77 := Tryz.underlying139
  a77 := Tryz.isAgg139
  z77 := Tryz.sizeOf139
  v77 := Tryz.zeroValue139
theorem m_sort_api_Value_ok (hc : ∀ (x y : List UInt8) (r : Int), m_value_Compare x y = some r → Pure Tryz.prog 10 [(.exact (.string (bs x))), (.exact (.string (bs y)))] (.exact (.int .i64 r))) {w0 : Value} (a0 r : List (List UInt8)) (h : m_sortby m_value_Compare a0 = some r) : Fun Tryz.prog 81 [.exact w0, .exact (.func (.func 10) #[] #[])] [vecT Tryz.prog 27 1 c_api_Value w0 a0] (fun a s => a = .tup [] ∧ s = [vecT Tryz.prog 27 1 c_api_Value w0 r]) :=
  m_sortby1_ok (e := fun x : List UInt8 => (.string (bs x))) lay0 { lay0 with } (fun _ => rfl) (fun _ => rfl) 10 (fun args w => by exact enters_of Tryz.func10 (by kernel_rfl) rfl args w) 27 hc a0 r h
end Go.Proofs.YtdppkpiagdaigaaGreatDoor
/- The contract of strings.Join, laid by program. -/
namespace Go.Proofs.YtdppkpiagdaigaaGreatDoor
open Go.RowKit Go.Sort
set_option maxRecDepth 100000
def layj_ren : Go.Shelf.Ren := ⟨fun | 156 => 72 | 165 => 95 | 166 => 96 | 169 => 97 | 240 => 116 | 241 => 117 | 276 => 139 | 277 => 140 | n => n, fun | 0 => 0 | 3 => 3 | 4 => 4 | 5 => 5 | 9 => 9 | 20 => 20 | 31 => 31 | 37 => 60 | 70 => 88 | 72 => 90 | 75 => 93 | 76 => 94 | 80 => 96 | 127 => 115 | 164 => 133 | n => n, fun n => n⟩
theorem layj : Go.Proofs.Lays.n156 Tryz.prog layj_ren where
  mixed := by kernel_rfl
  f156 := Tryz.func72.trans (congrArg some (by kernel_rfl))
  f165 := Tryz.func95.trans (congrArg some (by kernel_rfl))
  f166 := Tryz.func96.trans (congrArg some (by kernel_rfl))
  f169 := Tryz.func97.trans (congrArg some (by kernel_rfl))
  f240 := Tryz.func116.trans (congrArg some (by kernel_rfl))
  f241 := Tryz.func117.trans (congrArg some (by kernel_rfl))
  f276 := Tryz.func139.trans (congrArg some (by kernel_rfl))
  f277 := Tryz.func140.trans (congrArg some (by kernel_rfl))
  t0 := Tryz.underlying0
  a0 := Tryz.isAgg0
  z0 := Tryz.sizeOf0
  v0 := Tryz.zeroValue0
  t3 := Tryz.underlying3
  a3 := Tryz.isAgg3
  z3 := Tryz.sizeOf3
  v3 := Tryz.zeroValue3
  t4 := Tryz.underlying4
  a4 := Tryz.isAgg4
  z4 := Tryz.sizeOf4
  v4 := Tryz.zeroValue4
  t9 := Tryz.underlying9
  a9 := Tryz.isAgg9
  z9 := Tryz.sizeOf9
  v9 := Tryz.zeroValue9
  t20 := Tryz.underlying20
  a20 := Tryz.isAgg20
  z20 := Tryz.sizeOf20
  v20 := Tryz.zeroValue20
  t31 := Tryz.underlying31
  a31 := Tryz.isAgg31
  z31 := Tryz.sizeOf31
  v31 := Tryz.zeroValue31
  t37 := Tryz.underlying60
  a37 := Tryz.isAgg60
  z37 := Tryz.sizeOf60
  v37 := Tryz.zeroValue60
  t70 := Tryz.underlying88
  a70 := Tryz.isAgg88
  z70 := Tryz.sizeOf88
  v70 := Tryz.zeroValue88
  t72 := Tryz.underlying90
  a72 := Tryz.isAgg90
  z72 := Tryz.sizeOf90
  v72 := Tryz.zeroValue90
  t75 := Tryz.underlying93
  a75 := Tryz.isAgg93
  z75 := Tryz.sizeOf93
  v75 := Tryz.zeroValue93
  t76 := Tryz.underlying94
  a76 := Tryz.isAgg94
  z76 := Tryz.sizeOf94
  v76 := Tryz.zeroValue94
  t127 := Tryz.underlying115
  a127 := Tryz.isAgg115
  z127 := Tryz.sizeOf115
  v127 := Tryz.zeroValue115
  t164 := Tryz.underlying133
  a164 := Tryz.isAgg133
  z164 := Tryz.sizeOf133
  v164 := Tryz.zeroValue133
theorem layjX : Go.Proofs.Builder.Extra Tryz.prog layj_ren where
  sizeBuilder := by kernel_rfl
  liesBuilder := by kernel_rfl
  t5 := Tryz.underlying5
  a5 := Tryz.isAgg5
  z5 := Tryz.sizeOf5
  v5 := Tryz.zeroValue5
  infoByte := by kernel_rfl
  cellsByte := by kernel_rfl
  sizeByte := by kernel_rfl
  neB5 := by decide
theorem m_join_ok (a0 : List (List UInt8)) (a1 r : List UInt8) (h : m_join a0 a1 = some r) : Pure Tryz.prog 72 [.row 1 c_string a0, .exact (.string (bs a1))] (.exact (.string (bs r))) := by
  unfold m_join at h
  obtain ⟨hn, h⟩ := need_some h
  cases h
  intro M w vs hM hfit
  match vs, hfit with
  | [v, s], ⟨⟨A, c, e1, h1, h2, h3⟩, e2, _⟩ =>
  have e2 : s = .string (bs a1) := e2
  subst e1 e2
  have conv : ∀ (e : Ending) (w' : World), (e = .returned (.string ⟨(Lib.join ((a0.map bs).map (·.data.toList)) (bs a1).data.toList).toArray⟩) ∧ Below w.heap.size w w') ∧ (e ≠ .outgrown → w.drawn ≤ w'.drawn) → ∃ v, e = .returned v ∧ Keeps noB w w' ∧ (AV.exact (.string (bs (Lib.join a0 a1)))).p M w' v := by
    rintro e w' ⟨⟨rfl, hb⟩, hd⟩
    have hs : ((a0.map bs).map (·.data.toList)) = a0 := by rw [List.map_map]; exact (List.map_congr_left (fun x _ => by rfl)).trans (List.map_id a0)
    refine ⟨_, rfl, ⟨hb.os, hb.tape, hb.output, hd (by simp), hb.size, fun k hk _ => hb.block k hk⟩, ?_⟩
    rw [hs]
    rfl
  by_cases h0 : a0 = []
  · subst h0
    refine (Calls_drawn ((Any.strings_Join_none layj layjX A c (bs a1) w).mono fun e w' ⟨he, hw⟩ => (⟨he, hw ▸ Below.refl _ _⟩ : e = .returned (.string ⟨(Lib.join (([] : List (List UInt8)).map bs |>.map (·.data.toList)) (bs a1).data.toList).toArray⟩) ∧ Below w.heap.size w w'))).mono fun e w' he => conv e w' he
  · obtain ⟨b, off, rfl, hb, _, hx⟩ := h3 h0
    have hc : ∀ (j : Nat) x, (a0.map bs)[j]? = some x → w.cell? ⟨b, off + j, none⟩ = some (.string x) := fun j x hj => by
      rw [List.getElem?_map] at hj
      obtain ⟨y, hy, rfl⟩ := Option.map_eq_some_iff.1 hj
      obtain ⟨u, hu1, hu2⟩ := (hx j y hy).2 0 _ rfl
      have hu2 : u = .string (bs y) := hu2
      subst hu2
      simpa using hu1
    have hj := Any.strings_Join layj layjX b off c (a0.map bs) (bs a1) w hc hb (by simpa using hn.1) (by simpa using h1) (by
      have hs : ((a0.map bs).map (·.data.toList)) = a0 := by rw [List.map_map]; exact (List.map_congr_left (fun x _ => by rfl)).trans (List.map_id a0)
      rw [hs]; exact hn.2)
    rw [List.length_map] at hj
    exact (Calls_drawn hj).mono fun e w' he => conv e w' he
end Go.Proofs.YtdppkpiagdaigaaGreatDoor
/- A table of the library's as a thing in use; the contract of strconv.FormatInt, laid by program. -/
namespace Go.Proofs.YtdppkpiagdaigaaGreatDoor
open Go.RowKit Go.Sort
set_option maxRecDepth 100000
def layf_ren : Go.Shelf.Ren := ⟨fun | 129 => 110 | 173 => 71 | 246 => 94 | 283 => 112 | 284 => 113 | 285 => 114 | 286 => 115 | 317 => 135 | 318 => 136 | 319 => 137 | 320 => 138 | 337 => 145 | 338 => 146 | n => n, fun | 0 => 0 | 2 => 2 | 3 => 3 | 4 => 4 | 5 => 5 | 9 => 9 | 20 => 20 | 37 => 60 | 46 => 58 | 51 => 109 | 53 => 62 | 171 => 111 | 173 => 113 | 212 => 131 | 213 => 132 | 232 => 142 | 233 => 143 | n => n, fun | 17 => 0 | 18 => 2 | 19 => 3 | n => n⟩
theorem layf : Go.Proofs.LaysM.n173 Tryz.prog layf_ren where
  mixed := by kernel_rfl
  f129 := Tryz.func110.trans (congrArg some (by kernel_rfl))
  f173 := Tryz.func71.trans (congrArg some (by kernel_rfl))
  f246 := Tryz.func94.trans (congrArg some (by kernel_rfl))
  f283 := Tryz.func112.trans (congrArg some (by kernel_rfl))
  f284 := Tryz.func113.trans (congrArg some (by kernel_rfl))
  f285 := Tryz.func114.trans (congrArg some (by kernel_rfl))
  f286 := Tryz.func115.trans (congrArg some (by kernel_rfl))
  f317 := Tryz.func135.trans (congrArg some (by kernel_rfl))
  f318 := Tryz.func136.trans (congrArg some (by kernel_rfl))
  f319 := Tryz.func137.trans (congrArg some (by kernel_rfl))
  f320 := Tryz.func138.trans (congrArg some (by kernel_rfl))
  f337 := Tryz.func145.trans (congrArg some (by kernel_rfl))
  f338 := Tryz.func146.trans (congrArg some (by kernel_rfl))
  t0 := Tryz.underlying0
  a0 := Tryz.isAgg0
  z0 := Tryz.sizeOf0
  v0 := Tryz.zeroValue0
  t2 := Tryz.underlying2
  a2 := Tryz.isAgg2
  z2 := Tryz.sizeOf2
  v2 := Tryz.zeroValue2
  t3 := Tryz.underlying3
  a3 := Tryz.isAgg3
  z3 := Tryz.sizeOf3
  v3 := Tryz.zeroValue3
  t4 := Tryz.underlying4
  a4 := Tryz.isAgg4
  z4 := Tryz.sizeOf4
  v4 := Tryz.zeroValue4
  t5 := Tryz.underlying5
  a5 := Tryz.isAgg5
  z5 := Tryz.sizeOf5
  v5 := Tryz.zeroValue5
  t9 := Tryz.underlying9
  a9 := Tryz.isAgg9
  z9 := Tryz.sizeOf9
  v9 := Tryz.zeroValue9
  t20 := Tryz.underlying20
  a20 := Tryz.isAgg20
  z20 := Tryz.sizeOf20
  v20 := Tryz.zeroValue20
  t37 := Tryz.underlying60
  a37 := Tryz.isAgg60
  z37 := Tryz.sizeOf60
  v37 := Tryz.zeroValue60
  t46 := Tryz.underlying58
  a46 := Tryz.isAgg58
  z46 := Tryz.sizeOf58
  v46 := Tryz.zeroValue58
  t51 := Tryz.underlying109
  a51 := Tryz.isAgg109
  z51 := Tryz.sizeOf109
  v51 := Tryz.zeroValue109
  t53 := Tryz.underlying62
  a53 := Tryz.isAgg62
  z53 := Tryz.sizeOf62
  v53 := Tryz.zeroValue62
  t171 := Tryz.underlying111
  a171 := Tryz.isAgg111
  z171 := Tryz.sizeOf111
  v171 := Tryz.zeroValue111
  t173 := Tryz.underlying113
  a173 := Tryz.isAgg113
  z173 := Tryz.sizeOf113
  v173 := Tryz.zeroValue113
  t212 := Tryz.underlying131
  a212 := Tryz.isAgg131
  z212 := Tryz.sizeOf131
  v212 := Tryz.zeroValue131
  t213 := Tryz.underlying132
  a213 := Tryz.isAgg132
  z213 := Tryz.sizeOf132
  t232 := Tryz.underlying142
  a232 := Tryz.isAgg142
  z232 := Tryz.sizeOf142
  v232 := Tryz.zeroValue142
  t233 := Tryz.underlying143
  a233 := Tryz.isAgg143
  z233 := Tryz.sizeOf143
  v233 := Tryz.zeroValue143
  g17 := by kernel_rfl
  g18 := by kernel_rfl
  g19 := by kernel_rfl
  i0 := by kernel_rfl
  i2 := by kernel_rfl
  i3 := by kernel_rfl
  i4 := by kernel_rfl
  i5 := by kernel_rfl
  i9 := by kernel_rfl
  i20 := by kernel_rfl
  i37 := by kernel_rfl
  i46 := by kernel_rfl
  i51 := by kernel_rfl
  i53 := by kernel_rfl
  i171 := by kernel_rfl
  i173 := by kernel_rfl
  i212 := by kernel_rfl
  i232 := by kernel_rfl
  i233 := by kernel_rfl
  m17 := by kernel_rfl
  m18 := by kernel_rfl
  m19 := by kernel_rfl
theorem keeps_of_grow {w : World} (k : Nat) (os : Array Obj) : Keeps noB w (grow (w.drewN k) os) :=
  ⟨rfl, rfl, rfl, by simp [grow, World.drewN], by simp [grow, World.drewN], fun i h _ => by simp [grow, World.drewN, Array.getElem?_append_left h]⟩
/-- A table stands in its variable. -/
def tabIP (P : Program) (g : Nat) (nm : String) (k : IntKind) (zs : List Int) (hg : P.globalNamed nm = some g) : Item where
  own := []
  p := fun M w => g < w.heap.size ∧ ¬ M g ∧ Lib.TabIs P w nm k zs
  keep := fun {M M' w w'} hk hm ⟨h1, h2, h3⟩ => ⟨Nat.lt_of_lt_of_le h1 hk.size, fun h => h2 (hm g h1 h), by
    unfold Lib.TabIs World.var? at h3 ⊢
    rw [hg] at h3 ⊢
    simp only [Option.bind_some] at h3 ⊢
    rw [hk.block g h1 (fun h => h2 h.1)]
    exact h3⟩
theorem tab_named : Tryz.prog.globalNamed "internal/strconv.uint64pow10" = some 0 := by kernel_rfl
def tabI : Item := tabIP Tryz.prog 0 "internal/strconv.uint64pow10" .u64 Lib.pow10Tab tab_named
theorem tabI_own : tabI.own = [] := rfl
theorem m_itoa_ok (a0 a1 : Int) (r : List UInt8) (h : m_itoa a0 a1 = some r) : Fun Tryz.prog 71 [.exact (.int .i64 a0), .exact (.int .i64 a1)] [tabI] (fun a s => a = .exact (.string (bs r)) ∧ s = [tabI]) := by
  unfold m_itoa at h
  obtain ⟨⟨h1, h2, h3⟩, h⟩ := need_some h
  cases h
  subst h1
  intro F w vs hg hfit
  match vs, hfit with
  | [v, s], ⟨e1, e2, _⟩ =>
  have e1 : v = .int .i64 a0 := e1
  have e2 : s = .int .i64 10 := e2
  subst e1 e2
  obtain ⟨t1, t2, t3⟩ := hg.items tabI List.mem_cons_self
  refine (Any.strconv_FormatInt_10 layf a0 h2 h3 w t3).mono fun e w' ⟨he, k, os, hw⟩ => ?_
  have hk : Keeps noB w w' := by
    subst hw
    exact keeps_of_grow k os
  exact ⟨_, he, .exact (.string (bs (Lib.itoa a0))), [tabI], ⟨rfl, rfl⟩, hg.keep hk, hk.mono (fun _ _ h => h.elim), fun _ h _ => h, rfl⟩
/-- The table, from the row's condition. -/
theorem tab_laid {l : List (String × DataW Unit)} {W : World} (h : laidMetH Tryz.prog l W) (hl : (l.filter (fun x => x.1 == "internal/strconv.uint64pow10")) = [("internal/strconv.uint64pow10", Lib.tabData .u64 Lib.pow10Tab)]) : Lib.TabIs Tryz.prog W "internal/strconv.uint64pow10" .u64 Lib.pow10Tab ∧ 0 < W.heap.size := by
  have h1 := h.filter (fun x => x.1 == "internal/strconv.uint64pow10")
  rw [hl] at h1
  have h2 : laidMet Tryz.prog [("internal/strconv.uint64pow10", Lib.tabData .u64 Lib.pow10Tab)] W := (laidMetH_iff.1 h1).1
  have h3 := Lib.tabIs_of_head (g := 0) tab_named (t := 131) (by kernel_rfl) Tryz.underlying131 Tryz.underlying58 (by kernel_rfl) (by kernel_rfl) h2
  refine ⟨h3, ?_⟩
  unfold Lib.TabIs World.var? at h3
  rw [tab_named] at h3
  simp only [Option.bind_some] at h3
  rcases Nat.lt_or_ge 0 W.heap.size with h4 | h4
  · exact h4
  · rw [Array.getElem?_eq_none h4] at h3; cases h3
/-- The call of a function that reads the table. -/
theorem Fun.callT {f : FuncId} {args : List AV} {r : Value} (h : Fun Tryz.prog f args [tabI] (fun a s => a = .exact r ∧ s = [tabI])) {W : World} {vs : List Value} (hv : Fit noB W args vs) (hW : 0 < W.heap.size) (ht : Lib.TabIs Tryz.prog W "internal/strconv.uint64pow10" .u64 Lib.pow10Tab) : Calls Tryz.prog f vs.toArray W (fun e w' => e = .returned r ∧ Below W.heap.size W w') := by
  have hno : ∀ k, ¬ Items.own [tabI] k := fun k hk => by simp [Items.own, tabI_own] at hk
  have hb : ∀ k, ¬ both noB (Items.own [tabI]) k := fun k hk => hk.elim (fun h => h) (hno k)
  refine (h noB W vs ⟨fun _ hk => hk.elim, fun k hk => absurd hk (hno k), by simp [tabI_own], fun it hi => ?_⟩ (hv.keep (M' := both noB (Items.own [tabI])) (Keeps.refl _ _) (fun k _ hk => absurd hk (hb k)))).mono fun e w' hh => ?_
  · rw [List.mem_singleton.1 hi]
    exact ⟨hW, hb _, ht⟩
  · obtain ⟨v, e1, av, σ', ⟨h1, h2⟩, _, hk, _, hv⟩ := hh
    subst h1 h2
    exact ⟨by rw [e1]; exact congrArg _ hv, (hk.mono (fun k _ h => absurd h (hno k)) : Keeps noB W w').below⟩
end Go.Proofs.YtdppkpiagdaigaaGreatDoor
/- The functions compute their models, by program. -/
namespace Go.Proofs.YtdppkpiagdaigaaGreatDoor
open Go.RowKit
attribute [local irreducible] AV.exact AV.top AV.row AV.ptr AV.agg AV.tup AV.eptr AV.fn AV.nilq AV.nilqn opA opB opM opR Quiet Loud Reads wpG awp den Sub SubU Pure Fun vecI vecT boxI CellsAll CellsOf OneC LEs LEss
set_option maxRecDepth 100000

set_option maxHeartbeats 4000000 in
theorem m_gen_New_ok (a0 : List Int) (r : ((List Int) × Int)) (h : m_gen_New a0 = some r) : Fun Tryz.prog 8 [(.row 1 c_int a0)] [] (fun a s => ∃ z0, a = pA z0 0 ∧ s = [boxI 53 z0 [.row 1 c_int r.1, .exact (.int .i64 r.2)]]) := by
  unfold m_gen_New at h
  refine fun_of_awp Tryz.func8 rfl Tryz.ntmps8 (by simp) rfl (res1 rfl) fun E hE => k_end ?_
  refine k_seq ?_
  refine k_reg .free hmixP (by kernel_rfl) ?_
  refine G_q rfl (op_assign (av := .exact (.pointer none)) rfl ?_)
  refine G_nil ?_
  refine kC_normal ?_
  refine k_seq ?_
  refine k_reg .free hmixP (by kernel_rfl) ?_
  refine G_q rfl (op_move (av := .row 1 c_int a0) rfl ?_)
  refine G_q rfl (op_bld (c' := c_cspcheckgen_Choices (a0, 0)) (CellsAll.cons rfl CellsOf.row CellsAll.nil) rfl (LEs.cons (AV.le_eq rfl) (LEs.cons (AV.le_eq rfl) LEs.nil)) ?_)
  refine G_l rfl (op_boxI (c := [.row 1 c_int ((a0, 0).1), .exact (.int .i64 ((a0, 0).2))]) rfl CellsOf.agg (LEs.cons (AV.le_eq rfl) (LEs.cons (AV.le_eq rfl) LEs.nil)) (fun b1 => ?_))
  refine G_q rfl (op_assign (av := pA b1 0) rfl ?_)
  refine G_nil ?_
  refine kC_normal ?_
  refine k_ret ?_
  obtain rfl := Option.some.inj h
  refine kP_any (endN (af' := (AF.put AF0 (some 2) (pA b1 0))) (σ' := [boxI 53 b1 [.row 1 c_int ((a0, 0).1), .exact (.int .i64 ((a0, 0).2))]]) _ rfl ?_ ⟨b1, rfl, rfl⟩)
  exact Sub.of_le (AF.le_put (AV.le_eq rfl) (AF.le_top _))
set_option maxHeartbeats 4000000 in
theorem m_help_Mod_ok (a0 : Int) (a1 : Int) (r : Int) (h : m_help_Mod a0 a1 = some r) : Pure Tryz.prog 18 [(.exact (.int .i64 a0)), (.exact (.int .i64 a1))] (.exact (.int .i64 r)) := by
  unfold m_help_Mod at h
  refine Pure.ofFun (fun_of_awp Tryz.func18 rfl Tryz.ntmps18 (by simp) rfl (res1 rfl) fun E hE => k_end ?_)
  refine k_seq ?_
  refine k_reg .free hmixP (by kernel_rfl) ?_
  refine G_q rfl (op_assign (av := .exact (.int .i64 0)) rfl ?_)
  refine G_nil ?_
  refine kC_normal ?_
  refine k_seq ?_
  refine k_reg .free hmixP (by kernel_rfl) ?_
  refine G_q rfl (op_move (av := .exact (.int .i64 a0)) rfl ?_)
  refine G_q rfl (op_convInt (k := .u64) (by kernel_rfl) rfl rfl ?_)
  refine G_q rfl (op_move (av := .exact (.int .i64 a1)) rfl ?_)
  refine G_q rfl (op_convInt (k := .u64) (by kernel_rfl) rfl rfl ?_)
  obtain ⟨n1, h⟩ := need_some h
  refine G_q rfl (op_rem rfl rfl n1 rfl ?_)
  refine G_q rfl (op_convInt (k := .i64) (by kernel_rfl) rfl rfl ?_)
  refine G_q rfl (op_assign (av := .exact (.int .i64 (i64 (Int.tmod (IntKind.u64.wrap (a0)) (IntKind.u64.wrap (a1)))))) rfl ?_)
  refine G_nil ?_
  refine kC_normal ?_
  refine k_ret ?_
  obtain rfl := Option.some.inj h
  refine kP_any (endN (af' := (AF.put AF0 (some 4) (.exact (.int .i64 (i64 (Int.tmod (IntKind.u64.wrap (a0)) (IntKind.u64.wrap (a1)))))))) (σ' := []) _ rfl ?_ ⟨rfl, rfl⟩)
  exact Sub.of_le (AF.le_put (AV.le_eq rfl) (AF.le_top _))
set_option maxHeartbeats 4000000 in
theorem m_gen_Choices_Next_ok {w0 : Nat} (a0 : (List Int) × Int) (a1 : Int) (r : Int × ((List Int) × Int)) (h : m_gen_Choices_Next a0 a1 = some r) : Fun Tryz.prog 15 [(pA w0 0), (.exact (.int .i64 a1))] [boxI 53 w0 [.row 1 c_int a0.1, .exact (.int .i64 a0.2)]] (fun a s => a = .exact (.int .i64 r.1) ∧ s = [boxI 53 w0 [.row 1 c_int r.2.1, .exact (.int .i64 r.2.2)]]) := by
  unfold m_gen_Choices_Next at h
  refine fun_of_awp Tryz.func15 rfl Tryz.ntmps15 (by simp) rfl (res1 rfl) fun E hE => k_end ?_
  refine k_seq ?_
  refine k_reg .free hmixP (by kernel_rfl) ?_
  refine G_q rfl (op_assign (av := .exact (.int .i64 0)) rfl ?_)
  refine G_nil ?_
  refine kC_normal ?_
  refine k_seq ?_
  refine k_seq ?_
  refine k_plan [] [(0, 0), (0, 1), (0, 2), (0, 4), (0, 5), (0, 6), (1, 3), (1, 7), (0, 8), (0, 9)] hmixP (by kernel_rfl) ?_
  refine P_q no34_0 rfl (op_move (av := pA w0 0) rfl ?_)
  refine P_q no34_0 rfl (op_nilCheck rfl ?_)
  refine P_q no34_0 rfl (op_fieldAddr (o := 1) (by kernel_rfl) rfl ?_)
  refine P_q no34_0 rfl (op_move (av := pA w0 0) rfl ?_)
  refine P_q no34_0 rfl (op_nilCheck rfl ?_)
  refine P_q no34_0 rfl (op_fieldAddr (o := 0) (by kernel_rfl) rfl ?_)
  refine P_r rfl (op_load_box1 (a := .exact (.int .i64 a0.2)) (by kernel_rfl) rfl rfl ?_)
  refine P_r rfl (op_load_box1 (a := .row 1 c_int a0.1) (by kernel_rfl) rfl rfl ?_)
  refine P_q no34_0 rfl (op_len_row (by kernel_rfl) rfl ?_)
  refine P_q no34_0 rfl (op_geq rfl rfl ?_)
  refine P_nil ?_
  refine kC_normal ?_
  refine k_cond_d (p := (List.length a0.1 : Int) ≤ a0.2) rfl (fun hc => ?_) (fun hc => ?_)
  · replace h := ite_t h hc
    refine k_seq ?_
    refine k_reg .free hmixP (by kernel_rfl) ?_
    refine G_q rfl (op_assign (av := .exact (.int .i64 0)) rfl ?_)
    refine G_nil ?_
    refine kC_normal ?_
    refine k_ret ?_
    refine kC_ret ?_
    obtain rfl := Option.some.inj h
    refine kP_any (endN (af' := (AF.put AF0 (some 4) (.exact (.int .i64 0)))) (σ' := [boxI 53 w0 [.row 1 c_int a0.1, .exact (.int .i64 a0.2)]]) _ rfl ?_ ⟨rfl, rfl⟩)
    exact Sub.of_le (AF.le_put (AV.le_eq rfl) (AF.le_top _))
  · replace h := ite_f h hc
    refine k_skip ?_
    refine kC_normal ?_
    refine k_seq ?_
    refine k_reg .free hmixP (by kernel_rfl) ?_
    refine G_q rfl (op_move (av := pA w0 0) rfl ?_)
    refine G_q rfl (op_nilCheck rfl ?_)
    refine G_q rfl (op_fieldAddr (o := 1) (by kernel_rfl) rfl ?_)
    refine G_r rfl (op_load_box1 (a := .exact (.int .i64 a0.2)) (by kernel_rfl) rfl rfl ?_)
    refine G_q rfl (op_add rfl rfl rfl ?_)
    refine G_q rfl (op_nilCheck rfl ?_)
    refine G_q rfl (op_fieldAddr (o := 1) (by kernel_rfl) rfl ?_)
    refine G_l rfl (op_store_box (c' := [.exact (.int .i64 (i64 (a0.2 + 1)))]) (c3 := [.row 1 c_int a0.1, .exact (.int .i64 (i64 (a0.2 + 1)))]) rfl rfl CellsOf.int (LEs.cons (AV.le_eq rfl) LEs.nil) (OneC.int OneC.nil) (by kernel_rfl) (Nat.le_of_ble_eq_true rfl) rfl ?_)
    refine G_nil ?_
    refine kC_normal ?_
    refine k_seq ?_
    refine k_plan [] [(0, 0), (0, 1), (0, 2), (0, 4), (0, 5), (0, 6), (0, 11), (1, 3), (1, 7), (0, 8), (0, 9), (0, 10), (0, 12), (0, 13)] hmixP (by kernel_rfl) ?_
    refine P_q no34_0 rfl (op_move (av := pA w0 0) rfl ?_)
    refine P_q no34_0 rfl (op_nilCheck rfl ?_)
    refine P_q no34_0 rfl (op_fieldAddr (o := 0) (by kernel_rfl) rfl ?_)
    refine P_q no34_0 rfl (op_move (av := pA w0 0) rfl ?_)
    refine P_q no34_0 rfl (op_nilCheck rfl ?_)
    refine P_q no34_0 rfl (op_fieldAddr (o := 1) (by kernel_rfl) rfl ?_)
    refine P_q no34_0 rfl (op_move (av := .exact (.int .i64 a1)) rfl ?_)
    refine P_r rfl (op_load_box1 (a := .row 1 c_int a0.1) (by kernel_rfl) rfl rfl ?_)
    refine P_r rfl (op_load_box1 (a := .exact (.int .i64 (i64 (a0.2 + 1)))) (by kernel_rfl) rfl rfl ?_)
    refine P_q no34_0 rfl (op_sub rfl rfl rfl ?_)
    obtain ⟨n1, h⟩ := need_some h
    refine P_q no34_0 rfl (op_index_row (by kernel_rfl) rfl rfl n1.1 n1.2 ?_)
    refine P_q no34_0 rfl (op_load1p (a := .exact (.int .i64 (gi a0.1 (i64 ((i64 (a0.2 + 1)) - 1))))) (by kernel_rfl) rfl rfl ?_)
    obtain ⟨y2, hy2, h⟩ := bnd1_some h
    refine P_q no34_0 rfl (op_pure (m_help_Mod_ok _ _ _ hy2) Tryz.func18 (by kernel_rfl) (LEs.cons (AV.le_eq rfl) (LEs.cons (AV.le_eq rfl) LEs.nil)) ?_)
    refine P_q no34_0 rfl (op_assign (av := .exact (.int .i64 y2)) rfl ?_)
    refine P_nil ?_
    refine kC_normal ?_
    refine k_ret ?_
    obtain rfl := Option.some.inj h
    refine kP_any (endN (af' := (AF.put AF0 (some 4) (.exact (.int .i64 y2)))) (σ' := [boxI 53 w0 [.row 1 c_int a0.1, .exact (.int .i64 (i64 (a0.2 + 1)))]]) _ rfl ?_ ⟨rfl, rfl⟩)
    exact Sub.of_le (AF.le_put (AV.le_eq rfl) (AF.le_top _))
set_option maxHeartbeats 4000000 in
theorem m_ref9_Bool_ok (a0 : Bool) (r : (List UInt8)) (h : m_ref9_Bool a0 = some r) : Pure Tryz.prog 29 [(.exact (.bool a0))] (.exact (.string (bs r))) := by
  unfold m_ref9_Bool at h
  refine Pure.ofFun (fun_of_awp Tryz.func29 rfl Tryz.ntmps29 (by simp) rfl (res1 rfl) fun E hE => k_end ?_)
  refine k_seq ?_
  refine k_reg .free hmixP (by kernel_rfl) ?_
  refine G_q rfl (op_assign (av := .exact (.string (bs ([] : List UInt8)))) rfl ?_)
  refine G_nil ?_
  refine kC_normal ?_
  refine k_seq ?_
  refine k_seq ?_
  refine k_reg .free hmixP (by kernel_rfl) ?_
  refine G_q rfl (op_move (av := .exact (.bool a0)) rfl ?_)
  refine G_nil ?_
  refine kC_normal ?_
  refine k_cond_b (c := a0) rfl (fun hc => ?_) (fun hc => ?_)
  · replace h := ite_t h hc
    refine k_seq ?_
    refine k_reg .free hmixP (by kernel_rfl) ?_
    refine G_q rfl (op_litT (n := 1) (enc := c_uint8) [2, 1] (CellsAll.cons rfl CellsOf.int (CellsAll.cons rfl CellsOf.int CellsAll.nil)) rfl (by kernel_rfl) (LEss.cons (LEs.cons (AV.le_eq rfl) LEs.nil) (LEss.cons (LEs.cons (AV.le_eq rfl) LEs.nil) LEss.nil)) ?_)
    refine G_q rfl (op_bytesS rfl (by kernel_rfl) rfl ?_)
    refine G_q rfl (op_assign (av := .exact (.string (bs [2, 1]))) rfl ?_)
    refine G_nil ?_
    refine kC_normal ?_
    refine k_ret ?_
    refine kC_ret ?_
    obtain rfl := Option.some.inj h
    refine kP_any (endN (af' := (AF.put AF0 (some 2) (.exact (.string (bs [2, 1]))))) (σ' := []) _ rfl ?_ ⟨rfl, rfl⟩)
    exact Sub.of_le (AF.le_put (AV.le_eq rfl) (AF.le_top _))
  · replace h := ite_f h hc
    refine k_skip ?_
    refine kC_normal ?_
    refine k_seq ?_
    refine k_reg .free hmixP (by kernel_rfl) ?_
    refine G_q rfl (op_litT (n := 1) (enc := c_uint8) [2, 0] (CellsAll.cons rfl CellsOf.int (CellsAll.cons rfl CellsOf.int CellsAll.nil)) rfl (by kernel_rfl) (LEss.cons (LEs.cons (AV.le_eq rfl) LEs.nil) (LEss.cons (LEs.cons (AV.le_eq rfl) LEs.nil) LEss.nil)) ?_)
    refine G_q rfl (op_bytesS rfl (by kernel_rfl) rfl ?_)
    refine G_q rfl (op_assign (av := .exact (.string (bs [2, 0]))) rfl ?_)
    refine G_nil ?_
    refine kC_normal ?_
    refine k_ret ?_
    obtain rfl := Option.some.inj h
    refine kP_any (endN (af' := (AF.put AF0 (some 2) (.exact (.string (bs [2, 0]))))) (σ' := []) _ rfl ?_ ⟨rfl, rfl⟩)
    exact Sub.of_le (AF.le_put (AV.le_eq rfl) (AF.le_top _))
set_option maxHeartbeats 4000000 in
theorem m_ref9_two_ok (a0 : Int) (r : (List UInt8)) (h : m_ref9_two a0 = some r) : Pure Tryz.prog 61 [(.exact (.int .i64 a0))] (.exact (.string (bs r))) := by
  unfold m_ref9_two at h
  refine Pure.ofFun (fun_of_awp Tryz.func61 rfl Tryz.ntmps61 (by simp) rfl (res1 rfl) fun E hE => k_end ?_)
  refine k_seq ?_
  refine k_reg .free hmixP (by kernel_rfl) ?_
  refine G_q rfl (op_assign (av := .exact (.string (bs ([] : List UInt8)))) rfl ?_)
  refine G_nil ?_
  refine kC_normal ?_
  refine k_seq ?_
  refine k_reg .free hmixP (by kernel_rfl) ?_
  refine G_q rfl (op_move (av := .exact (.int .i64 a0)) rfl ?_)
  refine G_q rfl (op_shr rfl rfl (by decide) rfl ?_)
  refine G_q rfl (op_convInt (k := .u8) (r := (UInt8.toNat (u8i (Int.fdiv a0 (2 ^ min (Int.toNat 8) IntKind.i64.bits))) : Int)) (by kernel_rfl) rfl (u8i_eq _) ?_)
  refine G_q rfl (op_move (av := .exact (.int .i64 a0)) rfl ?_)
  refine G_q rfl (op_convInt (k := .u8) (r := (UInt8.toNat (u8i a0) : Int)) (by kernel_rfl) rfl (u8i_eq _) ?_)
  refine G_q rfl (op_litT (n := 1) (enc := c_uint8) [u8i (Int.fdiv a0 (2 ^ min (Int.toNat 8) IntKind.i64.bits)), u8i a0] (CellsAll.cons rfl CellsOf.int (CellsAll.cons rfl CellsOf.int CellsAll.nil)) rfl (by kernel_rfl) (LEss.cons (LEs.cons (AV.le_eq rfl) LEs.nil) (LEss.cons (LEs.cons (AV.le_eq rfl) LEs.nil) LEss.nil)) ?_)
  refine G_q rfl (op_bytesS rfl (by kernel_rfl) rfl ?_)
  refine G_q rfl (op_assign (av := .exact (.string (bs [u8i (Int.fdiv a0 (2 ^ min (Int.toNat 8) IntKind.i64.bits)), u8i a0]))) rfl ?_)
  refine G_nil ?_
  refine kC_normal ?_
  refine k_ret ?_
  obtain rfl := Option.some.inj h
  refine kP_any (endN (af' := (AF.put AF0 (some 2) (.exact (.string (bs [u8i (Int.fdiv a0 (2 ^ min (Int.toNat 8) IntKind.i64.bits)), u8i a0]))))) (σ' := []) _ rfl ?_ ⟨rfl, rfl⟩)
  exact Sub.of_le (AF.le_put (AV.le_eq rfl) (AF.le_top _))
set_option maxHeartbeats 4000000 in
theorem m_ref9_Name_ok (a0 : Int) (r : (List UInt8)) (h : m_ref9_Name a0 = some r) : Pure Tryz.prog 31 [(.exact (.int .i64 a0))] (.exact (.string (bs r))) := by
  unfold m_ref9_Name at h
  refine Pure.ofFun (fun_of_awp Tryz.func31 rfl Tryz.ntmps31 (by simp) rfl (res1 rfl) fun E hE => k_end ?_)
  refine k_seq ?_
  refine k_reg .free hmixP (by kernel_rfl) ?_
  refine G_q rfl (op_assign (av := .exact (.string (bs ([] : List UInt8)))) rfl ?_)
  refine G_nil ?_
  refine kC_normal ?_
  refine k_seq ?_
  refine k_join1_0 h (fun (x8_j3 : Bool) => (AF.put (AF.put AF0 (some 0) (.exact (.int .i64 a0))) (some 8) (.exact (.bool x8_j3)))) (fun (x8_j3 : Bool) => []) (fun k3 h => ?_) (fun x8_j3 h => ?_)
  · refine k_reg .free hmixP (by kernel_rfl) ?_
    refine G_q rfl (op_move (av := .exact (.int .i64 a0)) rfl ?_)
    refine G_q rfl (op_lss rfl rfl ?_)
    refine G_q rfl (op_move (av := .exact (.bool (decide (a0 < 0)))) rfl ?_)
    refine G_split (p := a0 < 0) 5 rfl (fun hc => ?_) (fun hc => ?_)
    · replace h := ite_t h hc
      refine G_n rfl rfl ?_
      refine G_n rfl rfl ?_
      refine G_q rfl (op_pick_t rfl (av := .exact (.bool true)) rfl ?_)
      refine G_nil ?_
      refine kI_normal ⟨_, h, ?_⟩
      exact Sub.of_le (AF.le_put (AV.le_eq rfl) (AF.le_put (AV.le_eq rfl) (AF.le_top _)))
    · replace h := ite_f h hc
      refine Gy_q rfl rfl rfl (op_move (av := .exact (.int .i64 a0)) rfl ?_)
      refine Gy_q rfl rfl rfl (op_gtr rfl rfl ?_)
      refine G_q rfl (op_pick_f rfl (av := .exact (.bool (decide (65535 < a0)))) rfl ?_)
      refine G_nil ?_
      refine kI_normal ⟨_, h, ?_⟩
      exact Sub.of_le (AF.le_put (AV.le_eq rfl) (AF.le_put (AV.le_eq rfl) (AF.le_top _)))
  · refine k_cond_b (c := x8_j3) rfl (fun hc => ?_) (fun hc => ?_)
    · replace h := ite_t h hc
      refine k_seq ?_
      refine k_reg .free hmixP (by kernel_rfl) ?_
      refine G_q rfl (op_assign (av := .exact (.string (bs ([] : List UInt8)))) rfl ?_)
      refine G_nil ?_
      refine kC_normal ?_
      refine k_ret ?_
      refine kC_ret ?_
      obtain rfl := Option.some.inj h
      refine kP_any (endN (af' := (AF.put AF0 (some 2) (.exact (.string (bs ([] : List UInt8)))))) (σ' := []) _ rfl ?_ ⟨rfl, rfl⟩)
      exact Sub.of_le (AF.le_put (AV.le_eq rfl) (AF.le_top _))
    · replace h := ite_f h hc
      refine k_skip ?_
      refine kC_normal ?_
      refine k_seq ?_
      refine k_plan [] [(0, 0), (0, 1), (0, 2), (0, 3), (0, 4), (0, 5)] hmixP (by kernel_rfl) ?_
      refine P_q no34_0 rfl (op_litT (n := 1) (enc := c_uint8) [10] (CellsAll.cons rfl CellsOf.int CellsAll.nil) rfl (by kernel_rfl) (LEss.cons (LEs.cons (AV.le_eq rfl) LEs.nil) LEss.nil) ?_)
      refine P_q no34_0 rfl (op_bytesS rfl (by kernel_rfl) rfl ?_)
      refine P_q no34_0 rfl (op_move (av := .exact (.int .i64 a0)) rfl ?_)
      obtain ⟨y4, hy4, h⟩ := bnd1_some h
      refine P_q no34_0 rfl (op_pure (m_ref9_two_ok _ _ hy4) Tryz.func61 (by kernel_rfl) (LEs.cons (AV.le_eq rfl) LEs.nil) ?_)
      obtain ⟨n5, h⟩ := need_some h
      refine P_q no34_0 rfl (op_addS n5 rfl rfl ?_)
      refine P_q no34_0 rfl (op_assign (av := .exact (.string (bs ([10] ++ y4)))) rfl ?_)
      refine P_nil ?_
      refine kC_normal ?_
      refine k_ret ?_
      obtain rfl := Option.some.inj h
      refine kP_any (endN (af' := (AF.put AF0 (some 2) (.exact (.string (bs ([10] ++ y4)))))) (σ' := []) _ rfl ?_ ⟨rfl, rfl⟩)
      exact Sub.of_le (AF.le_put (AV.le_eq rfl) (AF.le_top _))
set_option maxHeartbeats 4000000 in
theorem m_ref9_ascending_ok (self_ref9_walk : (List UInt8) → Int → Bool → Option (Int × (List (List UInt8)) × Int)) (hself_ref9_walk : ∀ (a0 : List UInt8) (a1 : Int) (a2 : Bool) (r : Int × (List (List UInt8)) × Int), self_ref9_walk a0 a1 a2 = some r → Pure Tryz.prog 75 [(.exact (.string (bs a0))), (.exact (.int .i64 a1)), (.exact (.bool a2))] (.tup [.exact (.int .i64 r.1), .row 1 c_api_Value r.2.1, .exact (.int .i64 r.2.2)])) (self_ref9_order : (List UInt8) → (List UInt8) → Option Int) (hself_ref9_order : ∀ (a0 : List UInt8) (a1 : List UInt8) (r : Int), self_ref9_order a0 a1 = some r → Pure Tryz.prog 85 [(.exact (.string (bs a0))), (.exact (.string (bs a1)))] (.exact (.int .i64 r))) (a0 : List (List UInt8)) (a1 : Int) (r : Bool) (h : m_ref9_ascending self_ref9_walk self_ref9_order a0 a1 = some r) : Pure Tryz.prog 118 [(.row 1 c_api_Value a0), (.exact (.int .i64 a1))] (.exact (.bool r)) := by
  unfold m_ref9_ascending at h
  refine Pure.ofFun (fun_of_awp Tryz.func118 rfl Tryz.ntmps118 (by simp) rfl (res1 rfl) fun E hE => k_end ?_)
  refine k_seq ?_
  refine k_reg .free hmixP (by kernel_rfl) ?_
  refine G_q rfl (op_assign (av := .exact (.bool false)) rfl ?_)
  refine G_nil ?_
  refine kC_normal ?_
  refine k_join0_0 h (AF0) ([]) (fun k1 h => ?_) (fun  h => ?_)
  · refine k_seq ?_
    refine k_reg .free hmixP (by kernel_rfl) ?_
    refine G_q rfl (op_move (av := .exact (.int .i64 a1)) rfl ?_)
    refine G_q rfl (op_assign (av := .exact (.int .i64 a1)) rfl ?_)
    refine G_nil ?_
    refine kC_normal ?_
    refine k_block ?_
    refine k_loop1_0 (m_ref9_ascending_L2 self_ref9_order a0 a1 k1) (m_ref9_ascending_B2 self_ref9_order a0 a1 k1) (fun _ => rfl) (fun m _ => rfl) h (fun (x5_l2 : Int) => (AF.put (AF.put (AF.put AF0 (some 0) (.row 1 c_api_Value a0)) (some 1) (.exact (.int .i64 a1))) (some 5) (.exact (.int .i64 x5_l2)))) (fun (x5_l2 : Int) => []) ?_ (fun rec2 x5_l2 h => ?_)
    · exact Sub.of_le (AF.le_put (AV.le_eq rfl) (AF.le_put (AV.le_eq rfl) (AF.le_put (AV.le_eq rfl) (AF.le_top _))))
    · unfold m_ref9_ascending_B2 at h
      refine k_seq ?_
      refine k_seq ?_
      refine k_reg .free hmixP (by kernel_rfl) ?_
      refine G_q rfl (op_move (av := .exact (.int .i64 x5_l2)) rfl ?_)
      refine G_q rfl (op_move (av := .row 1 c_api_Value a0) rfl ?_)
      refine G_q rfl (op_len_row (by kernel_rfl) rfl ?_)
      refine G_q rfl (op_lss rfl rfl ?_)
      refine G_nil ?_
      refine kC_normal ?_
      refine k_cond_d (p := x5_l2 < (List.length a0 : Int)) rfl (fun hc => ?_) (fun hc => ?_)
      · replace h := ite_t h hc
        refine k_skip ?_
        refine kC_normal ?_
        refine k_seq ?_
        refine k_block ?_
        refine k_seq ?_
        refine k_plan [] [(0, 0), (0, 1), (0, 2), (0, 3), (0, 4), (0, 5), (0, 6), (0, 7), (0, 8), (0, 9), (0, 10), (0, 11)] hmixP (by kernel_rfl) ?_
        refine P_q no34_0 rfl (op_move (av := .row 1 c_api_Value a0) rfl ?_)
        refine P_q no34_0 rfl (op_move (av := .exact (.int .i64 x5_l2)) rfl ?_)
        refine P_q no34_0 rfl (op_move (av := .exact (.int .i64 a1)) rfl ?_)
        refine P_q no34_0 rfl (op_sub rfl rfl rfl ?_)
        obtain ⟨n18, h⟩ := need_some h
        refine P_q no34_0 rfl (op_index_row (by kernel_rfl) rfl rfl n18.1 n18.2 ?_)
        refine P_q no34_0 rfl (op_load1p (a := .exact (.string (bs (gi a0 (i64 (x5_l2 - a1)))))) (by kernel_rfl) rfl rfl ?_)
        refine P_q no34_0 rfl (op_move (av := .row 1 c_api_Value a0) rfl ?_)
        refine P_q no34_0 rfl (op_move (av := .exact (.int .i64 x5_l2)) rfl ?_)
        obtain ⟨n19, h⟩ := need_some h
        refine P_q no34_0 rfl (op_index_row (by kernel_rfl) rfl rfl n19.1 n19.2 ?_)
        refine P_q no34_0 rfl (op_load1p (a := .exact (.string (bs (gi a0 x5_l2)))) (by kernel_rfl) rfl rfl ?_)
        obtain ⟨y20, hy20, h⟩ := bnd1_some h
        refine P_q no34_0 rfl (op_pure (hself_ref9_order _ _ _ hy20) Tryz.func85 (by kernel_rfl) (LEs.cons (AV.le_eq rfl) (LEs.cons (AV.le_eq rfl) LEs.nil)) ?_)
        refine P_q no34_0 rfl (op_geq rfl rfl ?_)
        refine P_nil ?_
        refine kC_normal ?_
        refine k_cond_d (p := 0 ≤ y20) rfl (fun hc => ?_) (fun hc => ?_)
        · replace h := ite_t h hc
          refine k_seq ?_
          refine k_reg .free hmixP (by kernel_rfl) ?_
          refine G_q rfl (op_assign (av := .exact (.bool false)) rfl ?_)
          refine G_nil ?_
          refine kC_normal ?_
          refine k_ret ?_
          refine kB_ret ?_
          refine kC_ret ?_
          refine kI_ret ?_
          refine kB_ret ?_
          refine kI_ret ?_
          obtain rfl := Option.some.inj h
          refine kP_any (endN (af' := (AF.put AF0 (some 4) (.exact (.bool false)))) (σ' := []) _ rfl ?_ ⟨rfl, rfl⟩)
          exact Sub.of_le (AF.le_put (AV.le_eq rfl) (AF.le_top _))
        · replace h := ite_f h hc
          refine k_skip ?_
          refine kB_normal ?_
          refine kC_normal ?_
          refine k_reg .free hmixP (by kernel_rfl) ?_
          refine G_q rfl (op_move (av := .exact (.int .i64 x5_l2)) rfl ?_)
          refine G_q rfl (op_move (av := .exact (.int .i64 a1)) rfl ?_)
          refine G_q rfl (op_add rfl rfl rfl ?_)
          refine G_q rfl (op_assign (av := .exact (.int .i64 (i64 (x5_l2 + a1)))) rfl ?_)
          refine G_nil ?_
          refine kI_normal ⟨_, h, ?_⟩
          exact Sub.of_le (AF.le_put (AV.le_eq rfl) (AF.le_put (AV.le_eq rfl) (AF.le_put (AV.le_eq rfl) (AF.le_top _))))
      · replace h := ite_f h hc
        refine k_exit ?_
        refine kC_exit ?_
        refine kI_exit ?_
        refine kB_exit ?_
        refine kI_normal ⟨h, ?_⟩
        exact Sub.of_le (AF.le_top _)
  · refine k_seq ?_
    refine k_reg .free hmixP (by kernel_rfl) ?_
    refine G_q rfl (op_assign (av := .exact (.bool true)) rfl ?_)
    refine G_nil ?_
    refine kC_normal ?_
    refine k_ret ?_
    obtain rfl := Option.some.inj h
    refine kP_any (endN (af' := (AF.put AF0 (some 4) (.exact (.bool true)))) (σ' := []) _ rfl ?_ ⟨rfl, rfl⟩)
    exact Sub.of_le (AF.le_put (AV.le_eq rfl) (AF.le_top _))
set_option maxHeartbeats 4000000 in
theorem m_ref9_number_ok (a0 : List UInt8) (r : Int) (h : m_ref9_number a0 = some r) : Pure Tryz.prog 76 [(.exact (.string (bs a0)))] (.exact (.int .i64 r)) := by
  unfold m_ref9_number at h
  refine Pure.ofFun (fun_of_awp Tryz.func76 rfl Tryz.ntmps76 (by simp) rfl (res1 rfl) fun E hE => k_end ?_)
  refine k_seq ?_
  refine k_reg .free hmixP (by kernel_rfl) ?_
  refine G_q rfl (op_assign (av := .exact (.int .i64 0)) rfl ?_)
  refine G_nil ?_
  refine kC_normal ?_
  refine k_seq ?_
  refine k_reg .free hmixP (by kernel_rfl) ?_
  refine G_q rfl (op_assign (av := .exact (.int .u64 0)) rfl ?_)
  refine G_nil ?_
  refine kC_normal ?_
  refine k_join1_0 h (fun (x3_j1 : Int) => (AF.put AF0 (some 3) (.exact (.int .u64 x3_j1)))) (fun (x3_j1 : Int) => []) (fun k1 h => ?_) (fun x3_j1 h => ?_)
  · refine k_seq ?_
    refine k_reg .free hmixP (by kernel_rfl) ?_
    refine G_q rfl (op_assign (av := .exact (.int .i64 0)) rfl ?_)
    refine G_nil ?_
    refine kC_normal ?_
    refine k_block ?_
    refine k_loop2_0 (m_ref9_number_L2 a0 k1) (m_ref9_number_B2 a0 k1) (fun _ _ => rfl) (fun m _ _ => rfl) h (fun (x3_l2 : Int) (x4_l2 : Int) => (AF.put (AF.put (AF.put AF0 (some 0) (.exact (.string (bs a0)))) (some 3) (.exact (.int .u64 x3_l2))) (some 4) (.exact (.int .i64 x4_l2)))) (fun (x3_l2 : Int) (x4_l2 : Int) => []) ?_ (fun rec2 x3_l2 x4_l2 h => ?_)
    · exact Sub.of_le (AF.le_put (AV.le_eq rfl) (AF.le_put (AV.le_eq rfl) (AF.le_put (AV.le_eq rfl) (AF.le_top _))))
    · unfold m_ref9_number_B2 at h
      refine k_seq ?_
      refine k_seq ?_
      refine k_reg .free hmixP (by kernel_rfl) ?_
      refine G_q rfl (op_move (av := .exact (.int .i64 x4_l2)) rfl ?_)
      refine G_q rfl (op_lss rfl rfl ?_)
      refine G_nil ?_
      refine kC_normal ?_
      refine k_cond_d (p := x4_l2 < 8) rfl (fun hc => ?_) (fun hc => ?_)
      · replace h := ite_t h hc
        refine k_skip ?_
        refine kC_normal ?_
        refine k_seq ?_
        refine k_block ?_
        refine k_reg .free hmixP (by kernel_rfl) ?_
        refine G_q rfl (op_move (av := .exact (.int .u64 x3_l2)) rfl ?_)
        refine G_q rfl (op_shl rfl rfl (by decide) rfl ?_)
        refine G_q rfl (op_move (av := .exact (.string (bs a0))) rfl ?_)
        refine G_q rfl (op_move (av := .exact (.int .i64 x4_l2)) rfl ?_)
        obtain ⟨n8, h⟩ := need_some h
        refine G_q rfl (op_index_str (by kernel_rfl) rfl rfl n8.1 n8.2 ?_)
        refine G_q rfl (op_convInt (k := .u64) (r := (UInt8.toNat (gi a0 x4_l2) : Int)) (by kernel_rfl) rfl (wrap_u8 rfl _) ?_)
        refine G_q rfl (op_or rfl rfl rfl ?_)
        refine G_q rfl (op_assign (av := .exact (.int .u64 (bOr .u64 (IntKind.u64.wrap (x3_l2 * 2 ^ min (Int.toNat 8) IntKind.u64.bits)) (UInt8.toNat (gi a0 x4_l2) : Int)))) rfl ?_)
        refine G_nil ?_
        refine kB_normal ?_
        refine kC_normal ?_
        refine k_reg .free hmixP (by kernel_rfl) ?_
        refine G_q rfl (op_move (av := .exact (.int .i64 x4_l2)) rfl ?_)
        refine G_q rfl (op_add rfl rfl rfl ?_)
        refine G_q rfl (op_assign (av := .exact (.int .i64 (i64 (x4_l2 + 1)))) rfl ?_)
        refine G_nil ?_
        refine kI_normal ⟨_, _, h, ?_⟩
        exact Sub.of_le (AF.le_put (AV.le_eq rfl) (AF.le_put (AV.le_eq rfl) (AF.le_put (AV.le_eq rfl) (AF.le_top _))))
      · replace h := ite_f h hc
        refine k_exit ?_
        refine kC_exit ?_
        refine kI_exit ?_
        refine kB_exit ?_
        refine kI_normal ⟨_, h, ?_⟩
        exact Sub.of_le (AF.le_put (AV.le_eq rfl) (AF.le_top _))
  · refine k_seq ?_
    refine k_reg .free hmixP (by kernel_rfl) ?_
    refine G_q rfl (op_move (av := .exact (.int .u64 x3_j1)) rfl ?_)
    refine G_q rfl (op_convInt (k := .i64) (by kernel_rfl) rfl rfl ?_)
    refine G_q rfl (op_assign (av := .exact (.int .i64 (i64 (x3_j1)))) rfl ?_)
    refine G_nil ?_
    refine kC_normal ?_
    refine k_ret ?_
    obtain rfl := Option.some.inj h
    refine kP_any (endN (af' := (AF.put AF0 (some 2) (.exact (.int .i64 (i64 (x3_j1)))))) (σ' := []) _ rfl ?_ ⟨rfl, rfl⟩)
    exact Sub.of_le (AF.le_put (AV.le_eq rfl) (AF.le_top _))
set_option maxHeartbeats 4000000 in
theorem m_ref9_small_ok (a0 : List UInt8) (a1 : Int) (a2 : Int) (r : Bool) (h : m_ref9_small a0 a1 a2 = some r) : Pure Tryz.prog 119 [(.exact (.string (bs a0))), (.exact (.int .i64 a1)), (.exact (.int .i64 a2))] (.exact (.bool r)) := by
  unfold m_ref9_small at h
  refine Pure.ofFun (fun_of_awp Tryz.func119 rfl Tryz.ntmps119 (by simp) rfl (res1 rfl) fun E hE => k_end ?_)
  refine k_seq ?_
  refine k_reg .free hmixP (by kernel_rfl) ?_
  refine G_q rfl (op_assign (av := .exact (.bool false)) rfl ?_)
  refine G_nil ?_
  refine kC_normal ?_
  refine k_join1_0 h (fun (x6_j1 : Bool) => (AF.put AF0 (some 6) (.exact (.bool x6_j1)))) (fun (x6_j1 : Bool) => []) (fun k1 h => ?_) (fun x6_j1 h => ?_)
  · refine k_reg .free hmixP (by kernel_rfl) ?_
    refine G_q rfl (op_move (av := .exact (.string (bs a0))) rfl ?_)
    obtain ⟨n7, h⟩ := need_some h
    refine G_q rfl (op_index_str (by kernel_rfl) rfl rfl n7.1 n7.2 ?_)
    refine G_q rfl (op_convInt (k := .i64) (r := (UInt8.toNat (gi a0 0) : Int)) (by kernel_rfl) rfl (wrap_u8 rfl _) ?_)
    refine G_q rfl (op_eql rfl rfl ?_)
    refine G_q rfl (op_move (av := .exact (.bool (decide ((UInt8.toNat (gi a0 0) : Int) = 1)))) rfl ?_)
    refine G_split (p := (UInt8.toNat (gi a0 0) : Int) = 1) 11 rfl (fun hc => ?_) (fun hc => ?_)
    · replace h := ite_t h hc
      refine Gy_q rfl rfl rfl (op_move (av := .exact (.string (bs a0))) rfl ?_)
      obtain ⟨n8, h⟩ := need_some h
      refine Gy_q rfl rfl rfl (op_slice_strd (by kernel_rfl) rfl (bnd_some rfl) bnd_none (by decide) n8 (Int.le_refl _) ?_)
      obtain ⟨y9, hy9, h⟩ := bnd1_some h
      refine Gy_q rfl rfl rfl (op_pure (m_ref9_number_ok _ _ hy9) Tryz.func76 (by kernel_rfl) (LEs.cons (AV.le_eq rfl) LEs.nil) ?_)
      refine Gy_q rfl rfl rfl (op_move (av := .exact (.int .i64 a1)) rfl ?_)
      refine Gy_q rfl rfl rfl (op_geq rfl rfl ?_)
      refine G_q rfl (op_pick_t rfl (av := .exact (.bool (decide (a1 ≤ y9)))) rfl ?_)
      refine G_q rfl (op_move (av := .exact (.bool (decide (a1 ≤ y9)))) rfl ?_)
      refine G_split (p := a1 ≤ y9) 18 rfl (fun hc => ?_) (fun hc => ?_)
      · replace h := ite_t h hc
        refine Gy_q rfl rfl rfl (op_move (av := .exact (.string (bs a0))) rfl ?_)
        obtain ⟨n10, h⟩ := need_some h
        refine Gy_q rfl rfl rfl (op_slice_strd (by kernel_rfl) rfl (bnd_some rfl) bnd_none (by decide) n10 (Int.le_refl _) ?_)
        obtain ⟨y11, hy11, h⟩ := bnd1_some h
        refine Gy_q rfl rfl rfl (op_pure (m_ref9_number_ok _ _ hy11) Tryz.func76 (by kernel_rfl) (LEs.cons (AV.le_eq rfl) LEs.nil) ?_)
        refine Gy_q rfl rfl rfl (op_move (av := .exact (.int .i64 a2)) rfl ?_)
        refine Gy_q rfl rfl rfl (op_leq rfl rfl ?_)
        refine G_q rfl (op_pick_t rfl (av := .exact (.bool (decide (y11 ≤ a2)))) rfl ?_)
        refine G_q rfl (op_assign (av := .exact (.bool (decide (y11 ≤ a2)))) rfl ?_)
        refine G_nil ?_
        refine kI_normal ⟨_, h, ?_⟩
        exact Sub.of_le (AF.le_put (AV.le_eq rfl) (AF.le_top _))
      · replace h := ite_f h hc
        refine G_n rfl rfl ?_
        refine G_n rfl rfl ?_
        refine G_n rfl rfl ?_
        refine G_n rfl rfl ?_
        refine G_n rfl rfl ?_
        refine G_q rfl (op_pick_f rfl (av := .exact (.bool false)) rfl ?_)
        refine G_q rfl (op_assign (av := .exact (.bool false)) rfl ?_)
        refine G_nil ?_
        refine kI_normal ⟨_, h, ?_⟩
        exact Sub.of_le (AF.le_put (AV.le_eq rfl) (AF.le_top _))
    · replace h := ite_f h hc
      refine G_n rfl rfl ?_
      refine G_n rfl rfl ?_
      refine G_n rfl rfl ?_
      refine G_n rfl rfl ?_
      refine G_n rfl rfl ?_
      refine G_q rfl (op_pick_f rfl (av := .exact (.bool false)) rfl ?_)
      refine G_q rfl (op_move (av := .exact (.bool false)) rfl ?_)
      refine G_n rfl rfl ?_
      refine G_n rfl rfl ?_
      refine G_n rfl rfl ?_
      refine G_n rfl rfl ?_
      refine G_n rfl rfl ?_
      refine G_q rfl (op_pick_f rfl (av := .exact (.bool false)) rfl ?_)
      refine G_q rfl (op_assign (av := .exact (.bool false)) rfl ?_)
      refine G_nil ?_
      refine kI_normal ⟨_, h, ?_⟩
      exact Sub.of_le (AF.le_put (AV.le_eq rfl) (AF.le_top _))
  · refine k_ret ?_
    obtain rfl := Option.some.inj h
    refine kP_any (endN (af' := (AF.put AF0 (some 6) (.exact (.bool x6_j1)))) (σ' := []) _ rfl ?_ ⟨rfl, rfl⟩)
    exact Sub.of_le (AF.le_put (AV.le_eq rfl) (AF.le_top _))
set_option maxHeartbeats 4000000 in
theorem m_ref9_parted_ok (self_ref9_walk : (List UInt8) → Int → Bool → Option (Int × (List (List UInt8)) × Int)) (hself_ref9_walk : ∀ (a0 : List UInt8) (a1 : Int) (a2 : Bool) (r : Int × (List (List UInt8)) × Int), self_ref9_walk a0 a1 a2 = some r → Pure Tryz.prog 75 [(.exact (.string (bs a0))), (.exact (.int .i64 a1)), (.exact (.bool a2))] (.tup [.exact (.int .i64 r.1), .row 1 c_api_Value r.2.1, .exact (.int .i64 r.2.2)])) (self_ref9_order : (List UInt8) → (List UInt8) → Option Int) (hself_ref9_order : ∀ (a0 : List UInt8) (a1 : List UInt8) (r : Int), self_ref9_order a0 a1 = some r → Pure Tryz.prog 85 [(.exact (.string (bs a0))), (.exact (.string (bs a1)))] (.exact (.int .i64 r))) (a0 : Int) (a1 : List (List UInt8)) (r : Bool) (h : m_ref9_parted self_ref9_walk self_ref9_order a0 a1 = some r) : Pure Tryz.prog 98 [(.exact (.int .i64 a0)), (.row 1 c_api_Value a1)] (.exact (.bool r)) := by
  unfold m_ref9_parted at h
  refine Pure.ofFun (fun_of_awp Tryz.func98 rfl Tryz.ntmps98 (by simp) rfl (res1 rfl) fun E hE => k_end ?_)
  refine k_seq ?_
  refine k_reg .free hmixP (by kernel_rfl) ?_
  refine G_q rfl (op_assign (av := .exact (.bool false)) rfl ?_)
  refine G_nil ?_
  refine kC_normal ?_
  refine k_seq ?_
  refine k_seq ?_
  refine k_reg .free hmixP (by kernel_rfl) ?_
  refine G_q rfl (op_move (av := .exact (.int .i64 a0)) rfl ?_)
  refine G_nil ?_
  refine kC_normal ?_
  refine k_block ?_
  refine k_seq ?_
  refine k_reg .free hmixP (by kernel_rfl) ?_
  refine G_q rfl (op_eql rfl rfl ?_)
  refine G_q rfl (op_assign (av := .exact (.bool (decide (a0 = 3)))) rfl ?_)
  refine G_nil ?_
  refine kC_normal ?_
  refine k_cond_d (p := a0 = 3) rfl (fun hc => ?_) (fun hc => ?_)
  · replace h := ite_t h hc
    refine k_join1_0 h (fun (x4_j1 : Bool) => (AF.put AF0 (some 4) (.exact (.bool x4_j1)))) (fun (x4_j1 : Bool) => []) (fun k1 h => ?_) (fun x4_j1 h => ?_)
    · refine k_reg .free hmixP (by kernel_rfl) ?_
      refine G_q rfl (op_move (av := .row 1 c_api_Value a1) rfl ?_)
      refine G_q rfl (op_len_row (by kernel_rfl) rfl ?_)
      refine G_q rfl (op_geq rfl rfl ?_)
      refine G_q rfl (op_move (av := .exact (.bool (decide (2 ≤ (List.length a1 : Int))))) rfl ?_)
      refine G_split (p := 2 ≤ (List.length a1 : Int)) 11 rfl (fun hc => ?_) (fun hc => ?_)
      · replace h := ite_t h hc
        refine Gy_q rfl rfl rfl (op_move (av := .row 1 c_api_Value a1) rfl ?_)
        refine Gy_q rfl rfl rfl (op_len_row (by kernel_rfl) rfl ?_)
        refine Gy_q rfl rfl rfl (op_leq rfl rfl ?_)
        refine G_q rfl (op_pick_t rfl (av := .exact (.bool (decide ((List.length a1 : Int) ≤ 8)))) rfl ?_)
        refine G_q rfl (op_assign (av := .exact (.bool (decide ((List.length a1 : Int) ≤ 8)))) rfl ?_)
        refine G_nil ?_
        refine kI_normal ⟨_, h, ?_⟩
        exact Sub.of_le (AF.le_put (AV.le_eq rfl) (AF.le_top _))
      · replace h := ite_f h hc
        refine G_n rfl rfl ?_
        refine G_n rfl rfl ?_
        refine G_n rfl rfl ?_
        refine G_q rfl (op_pick_f rfl (av := .exact (.bool false)) rfl ?_)
        refine G_q rfl (op_assign (av := .exact (.bool false)) rfl ?_)
        refine G_nil ?_
        refine kI_normal ⟨_, h, ?_⟩
        exact Sub.of_le (AF.le_put (AV.le_eq rfl) (AF.le_top _))
    · refine k_ret ?_
      refine kB_ret ?_
      refine kC_ret ?_
      obtain rfl := Option.some.inj h
      refine kP_any (endN (af' := (AF.put AF0 (some 4) (.exact (.bool x4_j1)))) (σ' := []) _ rfl ?_ ⟨rfl, rfl⟩)
      exact Sub.of_le (AF.le_put (AV.le_eq rfl) (AF.le_top _))
  · replace h := ite_f h hc
    refine k_seq ?_
    refine k_reg .free hmixP (by kernel_rfl) ?_
    refine G_q rfl (op_eql rfl rfl ?_)
    refine G_q rfl (op_assign (av := .exact (.bool (decide (a0 = 5)))) rfl ?_)
    refine G_nil ?_
    refine kC_normal ?_
    refine k_cond_d (p := a0 = 5) rfl (fun hc => ?_) (fun hc => ?_)
    · replace h := ite_t h hc
      refine k_seq ?_
      refine k_reg .free hmixP (by kernel_rfl) ?_
      refine G_q rfl (op_move (av := .row 1 c_api_Value a1) rfl ?_)
      obtain ⟨y2, hy2, h⟩ := bnd1_some h
      refine G_q rfl (op_pure (m_ref9_ascending_ok self_ref9_walk hself_ref9_walk self_ref9_order hself_ref9_order _ _ _ hy2) Tryz.func118 (by kernel_rfl) (LEs.cons (AV.le_eq rfl) (LEs.cons (AV.le_eq rfl) LEs.nil)) ?_)
      refine G_q rfl (op_assign (av := .exact (.bool y2)) rfl ?_)
      refine G_nil ?_
      refine kC_normal ?_
      refine k_ret ?_
      refine kB_ret ?_
      refine kC_ret ?_
      obtain rfl := Option.some.inj h
      refine kP_any (endN (af' := (AF.put AF0 (some 4) (.exact (.bool y2)))) (σ' := []) _ rfl ?_ ⟨rfl, rfl⟩)
      exact Sub.of_le (AF.le_put (AV.le_eq rfl) (AF.le_top _))
    · replace h := ite_f h hc
      refine k_seq ?_
      refine k_reg .free hmixP (by kernel_rfl) ?_
      refine G_q rfl (op_eql rfl rfl ?_)
      refine G_q rfl (op_assign (av := .exact (.bool (decide (a0 = 6)))) rfl ?_)
      refine G_nil ?_
      refine kC_normal ?_
      refine k_cond_d (p := a0 = 6) rfl (fun hc => ?_) (fun hc => ?_)
      · replace h := ite_t h hc
        refine k_join1_0 h (fun (x4_j3 : Bool) => (AF.put AF0 (some 4) (.exact (.bool x4_j3)))) (fun (x4_j3 : Bool) => []) (fun k3 h => ?_) (fun x4_j3 h => ?_)
        · refine k_reg .free hmixP (by kernel_rfl) ?_
          refine G_q rfl (op_move (av := .row 1 c_api_Value a1) rfl ?_)
          refine G_q rfl (op_len_row (by kernel_rfl) rfl ?_)
          refine G_q rfl (op_rem rfl rfl (by decide) rfl ?_)
          refine G_q rfl (op_eql rfl rfl ?_)
          refine G_q rfl (op_move (av := .exact (.bool (decide ((Int.tmod (List.length a1 : Int) 2) = 0)))) rfl ?_)
          refine G_split (p := (Int.tmod (List.length a1 : Int) 2) = 0) 26 rfl (fun hc => ?_) (fun hc => ?_)
          · replace h := ite_t h hc
            refine Gy_q rfl rfl rfl (op_move (av := .row 1 c_api_Value a1) rfl ?_)
            obtain ⟨y5, hy5, h⟩ := bnd1_some h
            refine Gy_q rfl rfl rfl (op_pure (m_ref9_ascending_ok self_ref9_walk hself_ref9_walk self_ref9_order hself_ref9_order _ _ _ hy5) Tryz.func118 (by kernel_rfl) (LEs.cons (AV.le_eq rfl) (LEs.cons (AV.le_eq rfl) LEs.nil)) ?_)
            refine G_q rfl (op_pick_t rfl (av := .exact (.bool y5)) rfl ?_)
            refine G_q rfl (op_assign (av := .exact (.bool y5)) rfl ?_)
            refine G_nil ?_
            refine kI_normal ⟨_, h, ?_⟩
            exact Sub.of_le (AF.le_put (AV.le_eq rfl) (AF.le_top _))
          · replace h := ite_f h hc
            refine G_n rfl rfl ?_
            refine G_n rfl rfl ?_
            refine G_q rfl (op_pick_f rfl (av := .exact (.bool false)) rfl ?_)
            refine G_q rfl (op_assign (av := .exact (.bool false)) rfl ?_)
            refine G_nil ?_
            refine kI_normal ⟨_, h, ?_⟩
            exact Sub.of_le (AF.le_put (AV.le_eq rfl) (AF.le_top _))
        · refine k_ret ?_
          refine kB_ret ?_
          refine kC_ret ?_
          obtain rfl := Option.some.inj h
          refine kP_any (endN (af' := (AF.put AF0 (some 4) (.exact (.bool x4_j3)))) (σ' := []) _ rfl ?_ ⟨rfl, rfl⟩)
          exact Sub.of_le (AF.le_put (AV.le_eq rfl) (AF.le_top _))
      · replace h := ite_f h hc
        refine k_seq ?_
        refine k_reg .free hmixP (by kernel_rfl) ?_
        refine G_q rfl (op_eql rfl rfl ?_)
        refine G_q rfl (op_assign (av := .exact (.bool (decide (a0 = 7)))) rfl ?_)
        refine G_nil ?_
        refine kC_normal ?_
        refine k_cond_d (p := a0 = 7) rfl (fun hc => ?_) (fun hc => ?_)
        · replace h := ite_t h hc
          refine k_join1_0 h (fun (x4_j6 : Bool) => (AF.put AF0 (some 4) (.exact (.bool x4_j6)))) (fun (x4_j6 : Bool) => []) (fun k6 h => ?_) (fun x4_j6 h => ?_)
          · refine k_reg .free hmixP (by kernel_rfl) ?_
            refine G_q rfl (op_move (av := .row 1 c_api_Value a1) rfl ?_)
            refine G_q rfl (op_len_row (by kernel_rfl) rfl ?_)
            refine G_q rfl (op_geq rfl rfl ?_)
            refine G_q rfl (op_move (av := .exact (.bool (decide (1 ≤ (List.length a1 : Int))))) rfl ?_)
            refine G_split (p := 1 ≤ (List.length a1 : Int)) 35 rfl (fun hc => ?_) (fun hc => ?_)
            · replace h := ite_t h hc
              refine Gy_q rfl rfl rfl (op_move (av := .row 1 c_api_Value a1) rfl ?_)
              refine Gy_q rfl rfl rfl (op_len_row (by kernel_rfl) rfl ?_)
              refine Gy_q rfl rfl rfl (op_leq rfl rfl ?_)
              refine G_q rfl (op_pick_t rfl (av := .exact (.bool (decide ((List.length a1 : Int) ≤ 9)))) rfl ?_)
              refine G_q rfl (op_move (av := .exact (.bool (decide ((List.length a1 : Int) ≤ 9)))) rfl ?_)
              refine G_split (p := (List.length a1 : Int) ≤ 9) 40 rfl (fun hc => ?_) (fun hc => ?_)
              · replace h := ite_t h hc
                refine Gy_q rfl rfl rfl (op_move (av := .row 1 c_api_Value a1) rfl ?_)
                obtain ⟨n9, h⟩ := need_some h
                refine Gy_q rfl rfl rfl (op_index_row (by kernel_rfl) rfl rfl n9.1 n9.2 ?_)
                refine Gy_q rfl rfl rfl (op_load1p (a := .exact (.string (bs (gi a1 0)))) (by kernel_rfl) rfl rfl ?_)
                obtain ⟨n10, h⟩ := need_some h
                refine Gy_q rfl rfl rfl (op_index_str (by kernel_rfl) rfl rfl n10.1 n10.2 ?_)
                refine Gy_q rfl rfl rfl (op_convInt (k := .i64) (r := (UInt8.toNat (gi (gi a1 0) 0) : Int)) (by kernel_rfl) rfl (wrap_u8 rfl _) ?_)
                refine Gy_q rfl rfl rfl (op_eql rfl rfl ?_)
                refine G_q rfl (op_pick_t rfl (av := .exact (.bool (decide ((UInt8.toNat (gi (gi a1 0) 0) : Int) = 10)))) rfl ?_)
                refine G_q rfl (op_assign (av := .exact (.bool (decide ((UInt8.toNat (gi (gi a1 0) 0) : Int) = 10)))) rfl ?_)
                refine G_nil ?_
                refine kI_normal ⟨_, h, ?_⟩
                exact Sub.of_le (AF.le_put (AV.le_eq rfl) (AF.le_top _))
              · replace h := ite_f h hc
                refine G_n rfl rfl ?_
                refine G_n rfl rfl ?_
                refine G_n rfl rfl ?_
                refine G_n rfl rfl ?_
                refine G_n rfl rfl ?_
                refine G_n rfl rfl ?_
                refine G_q rfl (op_pick_f rfl (av := .exact (.bool false)) rfl ?_)
                refine G_q rfl (op_assign (av := .exact (.bool false)) rfl ?_)
                refine G_nil ?_
                refine kI_normal ⟨_, h, ?_⟩
                exact Sub.of_le (AF.le_put (AV.le_eq rfl) (AF.le_top _))
            · replace h := ite_f h hc
              refine G_n rfl rfl ?_
              refine G_n rfl rfl ?_
              refine G_n rfl rfl ?_
              refine G_q rfl (op_pick_f rfl (av := .exact (.bool false)) rfl ?_)
              refine G_q rfl (op_move (av := .exact (.bool false)) rfl ?_)
              refine G_n rfl rfl ?_
              refine G_n rfl rfl ?_
              refine G_n rfl rfl ?_
              refine G_n rfl rfl ?_
              refine G_n rfl rfl ?_
              refine G_n rfl rfl ?_
              refine G_q rfl (op_pick_f rfl (av := .exact (.bool false)) rfl ?_)
              refine G_q rfl (op_assign (av := .exact (.bool false)) rfl ?_)
              refine G_nil ?_
              refine kI_normal ⟨_, h, ?_⟩
              exact Sub.of_le (AF.le_put (AV.le_eq rfl) (AF.le_top _))
          · refine k_ret ?_
            refine kB_ret ?_
            refine kC_ret ?_
            obtain rfl := Option.some.inj h
            refine kP_any (endN (af' := (AF.put AF0 (some 4) (.exact (.bool x4_j6)))) (σ' := []) _ rfl ?_ ⟨rfl, rfl⟩)
            exact Sub.of_le (AF.le_put (AV.le_eq rfl) (AF.le_top _))
        · replace h := ite_f h hc
          refine k_seq ?_
          refine k_reg .free hmixP (by kernel_rfl) ?_
          refine G_q rfl (op_eql rfl rfl ?_)
          refine G_q rfl (op_assign (av := .exact (.bool (decide (a0 = 8)))) rfl ?_)
          refine G_nil ?_
          refine kC_normal ?_
          refine k_cond_d (p := a0 = 8) rfl (fun hc => ?_) (fun hc => ?_)
          · replace h := ite_t h hc
            refine k_join1_0 h (fun (x4_j11 : Bool) => (AF.put AF0 (some 4) (.exact (.bool x4_j11)))) (fun (x4_j11 : Bool) => []) (fun k11 h => ?_) (fun x4_j11 h => ?_)
            · refine k_reg .free hmixP (by kernel_rfl) ?_
              refine G_q rfl (op_move (av := .row 1 c_api_Value a1) rfl ?_)
              refine G_q rfl (op_len_row (by kernel_rfl) rfl ?_)
              refine G_q rfl (op_geq rfl rfl ?_)
              refine G_q rfl (op_move (av := .exact (.bool (decide (1 ≤ (List.length a1 : Int))))) rfl ?_)
              refine G_split (p := 1 ≤ (List.length a1 : Int)) 53 rfl (fun hc => ?_) (fun hc => ?_)
              · replace h := ite_t h hc
                refine Gy_q rfl rfl rfl (op_move (av := .row 1 c_api_Value a1) rfl ?_)
                refine Gy_q rfl rfl rfl (op_len_row (by kernel_rfl) rfl ?_)
                refine Gy_q rfl rfl rfl (op_leq rfl rfl ?_)
                refine G_q rfl (op_pick_t rfl (av := .exact (.bool (decide ((List.length a1 : Int) ≤ 33)))) rfl ?_)
                refine G_q rfl (op_move (av := .exact (.bool (decide ((List.length a1 : Int) ≤ 33)))) rfl ?_)
                refine G_split (p := (List.length a1 : Int) ≤ 33) 58 rfl (fun hc => ?_) (fun hc => ?_)
                · replace h := ite_t h hc
                  refine Gy_q rfl rfl rfl (op_move (av := .row 1 c_api_Value a1) rfl ?_)
                  obtain ⟨n14, h⟩ := need_some h
                  refine Gy_q rfl rfl rfl (op_index_row (by kernel_rfl) rfl rfl n14.1 n14.2 ?_)
                  refine Gy_q rfl rfl rfl (op_load1p (a := .exact (.string (bs (gi a1 0)))) (by kernel_rfl) rfl rfl ?_)
                  obtain ⟨y15, hy15, h⟩ := bnd1_some h
                  refine Gy_q rfl rfl rfl (op_pure (m_ref9_small_ok _ _ _ _ hy15) Tryz.func119 (by kernel_rfl) (LEs.cons (AV.le_eq rfl) (LEs.cons (AV.le_eq rfl) (LEs.cons (AV.le_eq rfl) LEs.nil))) ?_)
                  refine G_q rfl (op_pick_t rfl (av := .exact (.bool y15)) rfl ?_)
                  refine G_q rfl (op_assign (av := .exact (.bool y15)) rfl ?_)
                  refine G_nil ?_
                  refine kI_normal ⟨_, h, ?_⟩
                  exact Sub.of_le (AF.le_put (AV.le_eq rfl) (AF.le_top _))
                · replace h := ite_f h hc
                  refine G_n rfl rfl ?_
                  refine G_n rfl rfl ?_
                  refine G_n rfl rfl ?_
                  refine G_n rfl rfl ?_
                  refine G_q rfl (op_pick_f rfl (av := .exact (.bool false)) rfl ?_)
                  refine G_q rfl (op_assign (av := .exact (.bool false)) rfl ?_)
                  refine G_nil ?_
                  refine kI_normal ⟨_, h, ?_⟩
                  exact Sub.of_le (AF.le_put (AV.le_eq rfl) (AF.le_top _))
              · replace h := ite_f h hc
                refine G_n rfl rfl ?_
                refine G_n rfl rfl ?_
                refine G_n rfl rfl ?_
                refine G_q rfl (op_pick_f rfl (av := .exact (.bool false)) rfl ?_)
                refine G_q rfl (op_move (av := .exact (.bool false)) rfl ?_)
                refine G_n rfl rfl ?_
                refine G_n rfl rfl ?_
                refine G_n rfl rfl ?_
                refine G_n rfl rfl ?_
                refine G_q rfl (op_pick_f rfl (av := .exact (.bool false)) rfl ?_)
                refine G_q rfl (op_assign (av := .exact (.bool false)) rfl ?_)
                refine G_nil ?_
                refine kI_normal ⟨_, h, ?_⟩
                exact Sub.of_le (AF.le_put (AV.le_eq rfl) (AF.le_top _))
            · refine k_ret ?_
              refine kB_ret ?_
              refine kC_ret ?_
              obtain rfl := Option.some.inj h
              refine kP_any (endN (af' := (AF.put AF0 (some 4) (.exact (.bool x4_j11)))) (σ' := []) _ rfl ?_ ⟨rfl, rfl⟩)
              exact Sub.of_le (AF.le_put (AV.le_eq rfl) (AF.le_top _))
          · replace h := ite_f h hc
            refine k_seq ?_
            refine k_reg .free hmixP (by kernel_rfl) ?_
            refine G_q rfl (op_eql rfl rfl ?_)
            refine G_q rfl (op_assign (av := .exact (.bool (decide (a0 = 9)))) rfl ?_)
            refine G_nil ?_
            refine kC_normal ?_
            refine k_cond_d (p := a0 = 9) rfl (fun hc => ?_) (fun hc => ?_)
            · replace h := ite_t h hc
              refine k_join1_0 h (fun (x4_j16 : Bool) => (AF.put AF0 (some 4) (.exact (.bool x4_j16)))) (fun (x4_j16 : Bool) => []) (fun k16 h => ?_) (fun x4_j16 h => ?_)
              · refine k_reg .free hmixP (by kernel_rfl) ?_
                refine G_q rfl (op_move (av := .row 1 c_api_Value a1) rfl ?_)
                refine G_q rfl (op_len_row (by kernel_rfl) rfl ?_)
                refine G_q rfl (op_geq rfl rfl ?_)
                refine G_q rfl (op_move (av := .exact (.bool (decide (1 ≤ (List.length a1 : Int))))) rfl ?_)
                refine G_split (p := 1 ≤ (List.length a1 : Int)) 69 rfl (fun hc => ?_) (fun hc => ?_)
                · replace h := ite_t h hc
                  refine Gy_q rfl rfl rfl (op_move (av := .row 1 c_api_Value a1) rfl ?_)
                  obtain ⟨n19, h⟩ := need_some h
                  refine Gy_q rfl rfl rfl (op_index_row (by kernel_rfl) rfl rfl n19.1 n19.2 ?_)
                  refine Gy_q rfl rfl rfl (op_load1p (a := .exact (.string (bs (gi a1 0)))) (by kernel_rfl) rfl rfl ?_)
                  obtain ⟨y20, hy20, h⟩ := bnd1_some h
                  refine Gy_q rfl rfl rfl (op_pure (m_ref9_small_ok _ _ _ _ hy20) Tryz.func119 (by kernel_rfl) (LEs.cons (AV.le_eq rfl) (LEs.cons (AV.le_eq rfl) (LEs.cons (AV.le_eq rfl) LEs.nil))) ?_)
                  refine G_q rfl (op_pick_t rfl (av := .exact (.bool y20)) rfl ?_)
                  refine G_q rfl (op_assign (av := .exact (.bool y20)) rfl ?_)
                  refine G_nil ?_
                  refine kI_normal ⟨_, h, ?_⟩
                  exact Sub.of_le (AF.le_put (AV.le_eq rfl) (AF.le_top _))
                · replace h := ite_f h hc
                  refine G_n rfl rfl ?_
                  refine G_n rfl rfl ?_
                  refine G_n rfl rfl ?_
                  refine G_n rfl rfl ?_
                  refine G_q rfl (op_pick_f rfl (av := .exact (.bool false)) rfl ?_)
                  refine G_q rfl (op_assign (av := .exact (.bool false)) rfl ?_)
                  refine G_nil ?_
                  refine kI_normal ⟨_, h, ?_⟩
                  exact Sub.of_le (AF.le_put (AV.le_eq rfl) (AF.le_top _))
              · refine k_ret ?_
                refine kB_ret ?_
                refine kC_ret ?_
                obtain rfl := Option.some.inj h
                refine kP_any (endN (af' := (AF.put AF0 (some 4) (.exact (.bool x4_j16)))) (σ' := []) _ rfl ?_ ⟨rfl, rfl⟩)
                exact Sub.of_le (AF.le_put (AV.le_eq rfl) (AF.le_top _))
            · replace h := ite_f h hc
              refine k_skip ?_
              refine kB_normal ?_
              refine kC_normal ?_
              refine k_seq ?_
              refine k_reg .free hmixP (by kernel_rfl) ?_
              refine G_q rfl (op_assign (av := .exact (.bool true)) rfl ?_)
              refine G_nil ?_
              refine kC_normal ?_
              refine k_ret ?_
              obtain rfl := Option.some.inj h
              refine kP_any (endN (af' := (AF.put AF0 (some 4) (.exact (.bool true)))) (σ' := []) _ rfl ?_ ⟨rfl, rfl⟩)
              exact Sub.of_le (AF.le_put (AV.le_eq rfl) (AF.le_top _))
set_option maxHeartbeats 4000000 in
theorem m_ref9_walk_F_ok (self_ref9_walk : (List UInt8) → Int → Bool → Option (Int × (List (List UInt8)) × Int)) (hself_ref9_walk : ∀ (a0 : List UInt8) (a1 : Int) (a2 : Bool) (r : Int × (List (List UInt8)) × Int), self_ref9_walk a0 a1 a2 = some r → Pure Tryz.prog 75 [(.exact (.string (bs a0))), (.exact (.int .i64 a1)), (.exact (.bool a2))] (.tup [.exact (.int .i64 r.1), .row 1 c_api_Value r.2.1, .exact (.int .i64 r.2.2)])) (self_ref9_order : (List UInt8) → (List UInt8) → Option Int) (hself_ref9_order : ∀ (a0 : List UInt8) (a1 : List UInt8) (r : Int), self_ref9_order a0 a1 = some r → Pure Tryz.prog 85 [(.exact (.string (bs a0))), (.exact (.string (bs a1)))] (.exact (.int .i64 r))) (a0 : List UInt8) (a1 : Int) (a2 : Bool) (r : Int × (List (List UInt8)) × Int) (h : m_ref9_walk_F self_ref9_walk self_ref9_order a0 a1 a2 = some r) : Pure Tryz.prog 75 [(.exact (.string (bs a0))), (.exact (.int .i64 a1)), (.exact (.bool a2))] (.tup [.exact (.int .i64 r.1), .row 1 c_api_Value r.2.1, .exact (.int .i64 r.2.2)]) := by
  unfold m_ref9_walk_F at h
  refine Pure.ofFun (fun_of_awp Tryz.func75 rfl Tryz.ntmps75 (by simp) rfl (res3 rfl) fun E hE => k_end ?_)
  refine k_seq ?_
  refine k_reg .free hmixP (by kernel_rfl) ?_
  refine G_q rfl (op_assign (av := .exact (.int .i64 0)) rfl ?_)
  refine G_q rfl (op_assign (av := .exact (.slice none 0 0)) rfl ?_)
  refine G_q rfl (op_assign (av := .exact (.int .i64 0)) rfl ?_)
  refine G_nil ?_
  refine kC_normal ?_
  refine k_seq ?_
  refine k_join1_0 h (fun (x24_j3 : Bool) => (AF.put (AF.put (AF.put (AF.put AF0 (some 0) (.exact (.string (bs a0)))) (some 1) (.exact (.int .i64 a1))) (some 2) (.exact (.bool a2))) (some 24) (.exact (.bool x24_j3)))) (fun (x24_j3 : Bool) => []) (fun k3 h => ?_) (fun x24_j3 h => ?_)
  · refine k_reg .free hmixP (by kernel_rfl) ?_
    refine G_q rfl (op_move (av := .exact (.string (bs a0))) rfl ?_)
    refine G_q rfl (op_lenS (by kernel_rfl) rfl ?_)
    refine G_q rfl (op_lss rfl rfl ?_)
    refine G_q rfl (op_move (av := .exact (.bool (decide ((List.length a0 : Int) < 2)))) rfl ?_)
    refine G_split (p := (List.length a0 : Int) < 2) 21 rfl (fun hc => ?_) (fun hc => ?_)
    · replace h := ite_t h hc
      refine G_n rfl rfl ?_
      refine G_n rfl rfl ?_
      refine G_q rfl (op_pick_t rfl (av := .exact (.bool true)) rfl ?_)
      refine G_nil ?_
      refine kI_normal ⟨_, h, ?_⟩
      exact Sub.of_le (AF.le_put (AV.le_eq rfl) (AF.le_put (AV.le_eq rfl) (AF.le_put (AV.le_eq rfl) (AF.le_put (AV.le_eq rfl) (AF.le_top _)))))
    · replace h := ite_f h hc
      refine Gy_q rfl rfl rfl (op_move (av := .exact (.int .i64 a1)) rfl ?_)
      refine Gy_q rfl rfl rfl (op_eql rfl rfl ?_)
      refine G_q rfl (op_pick_f rfl (av := .exact (.bool (decide (a1 = 0)))) rfl ?_)
      refine G_nil ?_
      refine kI_normal ⟨_, h, ?_⟩
      exact Sub.of_le (AF.le_put (AV.le_eq rfl) (AF.le_put (AV.le_eq rfl) (AF.le_put (AV.le_eq rfl) (AF.le_put (AV.le_eq rfl) (AF.le_top _)))))
  · refine k_cond_b (c := x24_j3) rfl (fun hc => ?_) (fun hc => ?_)
    · replace h := ite_t h hc
      refine k_seq ?_
      refine k_reg .free hmixP (by kernel_rfl) ?_
      refine G_q rfl (op_assign (av := .exact (.int .i64 0)) rfl ?_)
      refine G_q rfl (op_assign (av := .exact (.slice none 0 0)) rfl ?_)
      refine G_q rfl (op_assign (av := .exact (.int .i64 0)) rfl ?_)
      refine G_nil ?_
      refine kC_normal ?_
      refine k_ret ?_
      refine kC_ret ?_
      obtain rfl := Option.some.inj h
      refine kP_any (endN (af' := (AF.put (AF.put (AF.put AF0 (some 6) (.exact (.int .i64 0))) (some 7) (.row 1 c_api_Value [])) (some 8) (.exact (.int .i64 0)))) (σ' := []) _ rfl ?_ ⟨rfl, rfl⟩)
      exact Sub.of_le (AF.le_put (AV.le_eq rfl) (AF.le_put (row_nil (by decide)) (AF.le_put (AV.le_eq rfl) (AF.le_top _))))
    · replace h := ite_f h hc
      refine k_skip ?_
      refine kC_normal ?_
      refine k_seq ?_
      refine k_seq ?_
      refine k_reg .free hmixP (by kernel_rfl) ?_
      refine G_q rfl (op_move (av := .exact (.string (bs a0))) rfl ?_)
      obtain ⟨n8, h⟩ := need_some h
      refine G_q rfl (op_index_str (by kernel_rfl) rfl rfl n8.1 n8.2 ?_)
      refine G_q rfl (op_convInt (k := .i64) (r := (UInt8.toNat (gi a0 0) : Int)) (by kernel_rfl) rfl (wrap_u8 rfl _) ?_)
      refine G_q rfl (op_assign (av := .exact (.int .i64 (UInt8.toNat (gi a0 0) : Int))) rfl ?_)
      refine G_nil ?_
      refine kC_normal ?_
      refine k_block ?_
      refine k_seq ?_
      refine k_reg .free hmixP (by kernel_rfl) ?_
      refine G_q rfl (op_move (av := .exact (.int .i64 (UInt8.toNat (gi a0 0) : Int))) rfl ?_)
      refine G_q rfl (op_eql rfl rfl ?_)
      refine G_q rfl (op_assign (av := .exact (.bool (decide ((UInt8.toNat (gi a0 0) : Int) = 1)))) rfl ?_)
      refine G_nil ?_
      refine kC_normal ?_
      refine k_cond_d (p := (UInt8.toNat (gi a0 0) : Int) = 1) rfl (fun hc => ?_) (fun hc => ?_)
      · replace h := ite_t h hc
        refine k_seq ?_
        refine k_seq ?_
        refine k_reg .free hmixP (by kernel_rfl) ?_
        refine G_q rfl (op_move (av := .exact (.string (bs a0))) rfl ?_)
        refine G_q rfl (op_lenS (by kernel_rfl) rfl ?_)
        refine G_q rfl (op_lss rfl rfl ?_)
        refine G_nil ?_
        refine kC_normal ?_
        refine k_cond_d (p := (List.length a0 : Int) < 9) rfl (fun hc => ?_) (fun hc => ?_)
        · replace h := ite_t h hc
          refine k_seq ?_
          refine k_reg .free hmixP (by kernel_rfl) ?_
          refine G_q rfl (op_assign (av := .exact (.int .i64 0)) rfl ?_)
          refine G_q rfl (op_assign (av := .exact (.slice none 0 0)) rfl ?_)
          refine G_q rfl (op_assign (av := .exact (.int .i64 0)) rfl ?_)
          refine G_nil ?_
          refine kC_normal ?_
          refine k_ret ?_
          refine kC_ret ?_
          refine kB_ret ?_
          refine kC_ret ?_
          obtain rfl := Option.some.inj h
          refine kP_any (endN (af' := (AF.put (AF.put (AF.put AF0 (some 6) (.exact (.int .i64 0))) (some 7) (.row 1 c_api_Value [])) (some 8) (.exact (.int .i64 0)))) (σ' := []) _ rfl ?_ ⟨rfl, rfl⟩)
          exact Sub.of_le (AF.le_put (AV.le_eq rfl) (AF.le_put (row_nil (by decide)) (AF.le_put (AV.le_eq rfl) (AF.le_top _))))
        · replace h := ite_f h hc
          refine k_skip ?_
          refine kC_normal ?_
          refine k_seq ?_
          refine k_reg .free hmixP (by kernel_rfl) ?_
          refine G_q rfl (op_assign (av := .exact (.int .i64 9)) rfl ?_)
          refine G_q rfl (op_assign (av := .exact (.slice none 0 0)) rfl ?_)
          refine G_q rfl (op_assign (av := .exact (.int .i64 1)) rfl ?_)
          refine G_nil ?_
          refine kC_normal ?_
          refine k_ret ?_
          refine kB_ret ?_
          refine kC_ret ?_
          obtain rfl := Option.some.inj h
          refine kP_any (endN (af' := (AF.put (AF.put (AF.put AF0 (some 6) (.exact (.int .i64 9))) (some 7) (.row 1 c_api_Value [])) (some 8) (.exact (.int .i64 1)))) (σ' := []) _ rfl ?_ ⟨rfl, rfl⟩)
          exact Sub.of_le (AF.le_put (AV.le_eq rfl) (AF.le_put (row_nil (by decide)) (AF.le_put (AV.le_eq rfl) (AF.le_top _))))
      · replace h := ite_f h hc
        refine k_seq ?_
        refine k_reg .free hmixP (by kernel_rfl) ?_
        refine G_q rfl (op_move (av := .exact (.int .i64 (UInt8.toNat (gi a0 0) : Int))) rfl ?_)
        refine G_q rfl (op_eql rfl rfl ?_)
        refine G_q rfl (op_assign (av := .exact (.bool (decide ((UInt8.toNat (gi a0 0) : Int) = 2)))) rfl ?_)
        refine G_nil ?_
        refine kC_normal ?_
        refine k_cond_d (p := (UInt8.toNat (gi a0 0) : Int) = 2) rfl (fun hc => ?_) (fun hc => ?_)
        · replace h := ite_t h hc
          refine k_seq ?_
          refine k_seq ?_
          refine k_reg .free hmixP (by kernel_rfl) ?_
          refine G_q rfl (op_move (av := .exact (.string (bs a0))) rfl ?_)
          obtain ⟨n9, h⟩ := need_some h
          refine G_q rfl (op_index_str (by kernel_rfl) rfl rfl n9.1 n9.2 ?_)
          refine G_q rfl (op_gtrU (a := (gi a0 1)) (b := 1) rfl rfl ?_)
          refine G_nil ?_
          refine kC_normal ?_
          refine k_cond_d (p := 1 < (gi a0 1)) rfl (fun hc => ?_) (fun hc => ?_)
          · replace h := ite_t h hc
            refine k_seq ?_
            refine k_reg .free hmixP (by kernel_rfl) ?_
            refine G_q rfl (op_assign (av := .exact (.int .i64 0)) rfl ?_)
            refine G_q rfl (op_assign (av := .exact (.slice none 0 0)) rfl ?_)
            refine G_q rfl (op_assign (av := .exact (.int .i64 0)) rfl ?_)
            refine G_nil ?_
            refine kC_normal ?_
            refine k_ret ?_
            refine kC_ret ?_
            refine kB_ret ?_
            refine kC_ret ?_
            obtain rfl := Option.some.inj h
            refine kP_any (endN (af' := (AF.put (AF.put (AF.put AF0 (some 6) (.exact (.int .i64 0))) (some 7) (.row 1 c_api_Value [])) (some 8) (.exact (.int .i64 0)))) (σ' := []) _ rfl ?_ ⟨rfl, rfl⟩)
            exact Sub.of_le (AF.le_put (AV.le_eq rfl) (AF.le_put (row_nil (by decide)) (AF.le_put (AV.le_eq rfl) (AF.le_top _))))
          · replace h := ite_f h hc
            refine k_skip ?_
            refine kC_normal ?_
            refine k_seq ?_
            refine k_reg .free hmixP (by kernel_rfl) ?_
            refine G_q rfl (op_assign (av := .exact (.int .i64 2)) rfl ?_)
            refine G_q rfl (op_assign (av := .exact (.slice none 0 0)) rfl ?_)
            refine G_q rfl (op_assign (av := .exact (.int .i64 1)) rfl ?_)
            refine G_nil ?_
            refine kC_normal ?_
            refine k_ret ?_
            refine kB_ret ?_
            refine kC_ret ?_
            obtain rfl := Option.some.inj h
            refine kP_any (endN (af' := (AF.put (AF.put (AF.put AF0 (some 6) (.exact (.int .i64 2))) (some 7) (.row 1 c_api_Value [])) (some 8) (.exact (.int .i64 1)))) (σ' := []) _ rfl ?_ ⟨rfl, rfl⟩)
            exact Sub.of_le (AF.le_put (AV.le_eq rfl) (AF.le_put (row_nil (by decide)) (AF.le_put (AV.le_eq rfl) (AF.le_top _))))
        · replace h := ite_f h hc
          refine k_join1_0 h (fun (x40_j10 : Bool) => (AF.put (AF.put (AF.put (AF.put (AF.put AF0 (some 0) (.exact (.string (bs a0)))) (some 1) (.exact (.int .i64 a1))) (some 2) (.exact (.bool a2))) (some 9) (.exact (.int .i64 (UInt8.toNat (gi a0 0) : Int)))) (some 40) (.exact (.bool x40_j10)))) (fun (x40_j10 : Bool) => []) (fun k10 h => ?_) (fun x40_j10 h => ?_)
          · refine k_reg .free hmixP (by kernel_rfl) ?_
            refine G_q rfl (op_move (av := .exact (.string (bs a0))) rfl ?_)
            refine G_q rfl (op_lenS (by kernel_rfl) rfl ?_)
            refine G_q rfl (op_lss rfl rfl ?_)
            refine G_q rfl (op_move (av := .exact (.bool (decide ((List.length a0 : Int) < 3)))) rfl ?_)
            refine G_split (p := (List.length a0 : Int) < 3) 44 rfl (fun hc => ?_) (fun hc => ?_)
            · replace h := ite_t h hc
              refine G_n rfl rfl ?_
              refine G_n rfl rfl ?_
              refine G_q rfl (op_pick_t rfl (av := .exact (.bool true)) rfl ?_)
              refine G_q rfl (op_move (av := .exact (.bool true)) rfl ?_)
              refine G_n rfl rfl ?_
              refine G_n rfl rfl ?_
              refine G_q rfl (op_pick_t rfl (av := .exact (.bool true)) rfl ?_)
              refine G_q rfl (op_assign (av := .exact (.bool true)) rfl ?_)
              refine G_nil ?_
              refine kI_normal ⟨_, h, ?_⟩
              exact Sub.of_le (AF.le_put (AV.le_eq rfl) (AF.le_put (AV.le_eq rfl) (AF.le_put (AV.le_eq rfl) (AF.le_put (AV.le_eq rfl) (AF.le_put (AV.le_eq rfl) (AF.le_top _))))))
            · replace h := ite_f h hc
              refine Gy_q rfl rfl rfl (op_move (av := .exact (.int .i64 (UInt8.toNat (gi a0 0) : Int))) rfl ?_)
              refine Gy_q rfl rfl rfl (op_lss rfl rfl ?_)
              refine G_q rfl (op_pick_f rfl (av := .exact (.bool (decide ((UInt8.toNat (gi a0 0) : Int) < 3)))) rfl ?_)
              refine G_q rfl (op_move (av := .exact (.bool (decide ((UInt8.toNat (gi a0 0) : Int) < 3)))) rfl ?_)
              refine G_split (p := (UInt8.toNat (gi a0 0) : Int) < 3) 48 rfl (fun hc => ?_) (fun hc => ?_)
              · replace h := ite_t h hc
                refine G_n rfl rfl ?_
                refine G_n rfl rfl ?_
                refine G_q rfl (op_pick_t rfl (av := .exact (.bool true)) rfl ?_)
                refine G_q rfl (op_assign (av := .exact (.bool true)) rfl ?_)
                refine G_nil ?_
                refine kI_normal ⟨_, h, ?_⟩
                exact Sub.of_le (AF.le_put (AV.le_eq rfl) (AF.le_put (AV.le_eq rfl) (AF.le_put (AV.le_eq rfl) (AF.le_put (AV.le_eq rfl) (AF.le_put (AV.le_eq rfl) (AF.le_top _))))))
              · replace h := ite_f h hc
                refine Gy_q rfl rfl rfl (op_move (av := .exact (.int .i64 (UInt8.toNat (gi a0 0) : Int))) rfl ?_)
                refine Gy_q rfl rfl rfl (op_gtr rfl rfl ?_)
                refine G_q rfl (op_pick_f rfl (av := .exact (.bool (decide (10 < (UInt8.toNat (gi a0 0) : Int))))) rfl ?_)
                refine G_q rfl (op_assign (av := .exact (.bool (decide (10 < (UInt8.toNat (gi a0 0) : Int))))) rfl ?_)
                refine G_nil ?_
                refine kI_normal ⟨_, h, ?_⟩
                exact Sub.of_le (AF.le_put (AV.le_eq rfl) (AF.le_put (AV.le_eq rfl) (AF.le_put (AV.le_eq rfl) (AF.le_put (AV.le_eq rfl) (AF.le_put (AV.le_eq rfl) (AF.le_top _))))))
          · refine k_cond_b (c := x40_j10) rfl (fun hc => ?_) (fun hc => ?_)
            · replace h := ite_t h hc
              refine k_seq ?_
              refine k_reg .free hmixP (by kernel_rfl) ?_
              refine G_q rfl (op_assign (av := .exact (.int .i64 0)) rfl ?_)
              refine G_q rfl (op_assign (av := .exact (.slice none 0 0)) rfl ?_)
              refine G_q rfl (op_assign (av := .exact (.int .i64 0)) rfl ?_)
              refine G_nil ?_
              refine kC_normal ?_
              refine k_ret ?_
              refine kB_ret ?_
              refine kC_ret ?_
              obtain rfl := Option.some.inj h
              refine kP_any (endN (af' := (AF.put (AF.put (AF.put AF0 (some 6) (.exact (.int .i64 0))) (some 7) (.row 1 c_api_Value [])) (some 8) (.exact (.int .i64 0)))) (σ' := []) _ rfl ?_ ⟨rfl, rfl⟩)
              exact Sub.of_le (AF.le_put (AV.le_eq rfl) (AF.le_put (row_nil (by decide)) (AF.le_put (AV.le_eq rfl) (AF.le_top _))))
            · replace h := ite_f h hc
              refine k_seq ?_
              refine k_reg .free hmixP (by kernel_rfl) ?_
              refine G_q rfl (op_move (av := .exact (.int .i64 (UInt8.toNat (gi a0 0) : Int))) rfl ?_)
              refine G_q rfl (op_eql rfl rfl ?_)
              refine G_q rfl (op_assign (av := .exact (.bool (decide ((UInt8.toNat (gi a0 0) : Int) = 10)))) rfl ?_)
              refine G_nil ?_
              refine kC_normal ?_
              refine k_cond_d (p := (UInt8.toNat (gi a0 0) : Int) = 10) rfl (fun hc => ?_) (fun hc => ?_)
              · replace h := ite_t h hc
                refine k_seq ?_
                refine k_reg .free hmixP (by kernel_rfl) ?_
                refine G_q rfl (op_assign (av := .exact (.int .i64 3)) rfl ?_)
                refine G_q rfl (op_assign (av := .exact (.slice none 0 0)) rfl ?_)
                refine G_q rfl (op_assign (av := .exact (.int .i64 1)) rfl ?_)
                refine G_nil ?_
                refine kC_normal ?_
                refine k_ret ?_
                refine kB_ret ?_
                refine kC_ret ?_
                obtain rfl := Option.some.inj h
                refine kP_any (endN (af' := (AF.put (AF.put (AF.put AF0 (some 6) (.exact (.int .i64 3))) (some 7) (.row 1 c_api_Value [])) (some 8) (.exact (.int .i64 1)))) (σ' := []) _ rfl ?_ ⟨rfl, rfl⟩)
                exact Sub.of_le (AF.le_put (AV.le_eq rfl) (AF.le_put (row_nil (by decide)) (AF.le_put (AV.le_eq rfl) (AF.le_top _))))
              · replace h := ite_f h hc
                refine k_skip ?_
                refine kB_normal ?_
                refine kC_normal ?_
                refine k_seq ?_
                refine k_plan [] [(0, 0), (0, 1), (0, 2), (0, 3), (0, 4), (0, 5), (0, 6), (0, 7), (0, 8)] hmixP (by kernel_rfl) ?_
                refine P_q no34_0 rfl (op_move (av := .exact (.string (bs a0))) rfl ?_)
                obtain ⟨n11, h⟩ := need_some h
                refine P_q no34_0 rfl (op_index_str (by kernel_rfl) rfl rfl n11.1 n11.2 ?_)
                refine P_q no34_0 rfl (op_convInt (k := .i64) (r := (UInt8.toNat (gi a0 1) : Int)) (by kernel_rfl) rfl (wrap_u8 rfl _) ?_)
                refine P_q no34_0 rfl (op_shl rfl rfl (by decide) rfl ?_)
                refine P_q no34_0 rfl (op_move (av := .exact (.string (bs a0))) rfl ?_)
                obtain ⟨n12, h⟩ := need_some h
                refine P_q no34_0 rfl (op_index_str (by kernel_rfl) rfl rfl n12.1 n12.2 ?_)
                refine P_q no34_0 rfl (op_convInt (k := .i64) (r := (UInt8.toNat (gi a0 2) : Int)) (by kernel_rfl) rfl (wrap_u8 rfl _) ?_)
                refine P_q no34_0 rfl (op_or rfl rfl rfl ?_)
                refine P_q no34_0 rfl (op_assign (av := .exact (.int .i64 (bOr .i64 (i64 ((UInt8.toNat (gi a0 1) : Int) * 2 ^ min (Int.toNat 8) IntKind.i64.bits)) (UInt8.toNat (gi a0 2) : Int)))) rfl ?_)
                refine P_nil ?_
                refine kC_normal ?_
                refine k_seq ?_
                refine k_reg .free hmixP (by kernel_rfl) ?_
                refine G_q rfl (op_assign (av := .exact (.int .i64 3)) rfl ?_)
                refine G_q rfl (op_assign (av := .exact (.int .i64 0)) rfl ?_)
                refine G_nil ?_
                refine kC_normal ?_
                refine k_seq ?_
                refine k_reg .free hmixP (by kernel_rfl) ?_
                refine G_q rfl (op_assign (av := .exact (.slice none 0 0)) rfl ?_)
                refine G_nil ?_
                refine kC_normal ?_
                refine k_join3_1 h (fun (x11_j13 : Int) (x12_j13 : Int) (x13_j13 : List (List UInt8)) (v13_j13 : Value) => (AF.put (AF.put (AF.put (AF.put (AF.put AF0 (some 0) (.exact (.string (bs a0)))) (some 2) (.exact (.bool a2))) (some 11) (.exact (.int .i64 x11_j13))) (some 12) (.exact (.int .i64 x12_j13))) (some 13) (.exact v13_j13))) (fun (x11_j13 : Int) (x12_j13 : Int) (x13_j13 : List (List UInt8)) (v13_j13 : Value) => [vecT Tryz.prog 27 1 c_api_Value v13_j13 x13_j13]) (fun k13 h => ?_) (fun x11_j13 x12_j13 x13_j13 v13_j13 h => ?_)
                · refine k_seq ?_
                  refine k_reg .free hmixP (by kernel_rfl) ?_
                  refine G_q rfl (op_assign (av := .exact (.int .i64 0)) rfl ?_)
                  refine G_nil ?_
                  refine kC_normal ?_
                  refine k_block ?_
                  refine k_loop4_1 (m_ref9_walk_L2 self_ref9_walk a0 a1 a2 k13) (m_ref9_walk_B2 self_ref9_walk a0 a1 a2 k13) (fun _ _ _ _ => rfl) (fun m _ _ _ _ => rfl) h (fun (x11_l2 : Int) (x12_l2 : Int) (x13_l2 : List (List UInt8)) (x14_l2 : Int) (v13_l2 : Value) => (AF.put (AF.put (AF.put (AF.put (AF.put (AF.put (AF.put (AF.put AF0 (some 0) (.exact (.string (bs a0)))) (some 1) (.exact (.int .i64 a1))) (some 2) (.exact (.bool a2))) (some 10) (.exact (.int .i64 (bOr .i64 (i64 ((UInt8.toNat (gi a0 1) : Int) * 2 ^ min (Int.toNat 8) IntKind.i64.bits)) (UInt8.toNat (gi a0 2) : Int))))) (some 11) (.exact (.int .i64 x11_l2))) (some 12) (.exact (.int .i64 x12_l2))) (some 13) (.exact v13_l2)) (some 14) (.exact (.int .i64 x14_l2)))) (fun (x11_l2 : Int) (x12_l2 : Int) (x13_l2 : List (List UInt8)) (x14_l2 : Int) (v13_l2 : Value) => [vecT Tryz.prog 27 1 c_api_Value v13_l2 x13_l2]) (.slice none 0 0) ?_ (fun rec2 x11_l2 x12_l2 x13_l2 x14_l2 v13_l2 h => ?_)
                  · refine Sub.trans (SubU.to (SubU.nilT (P := Tryz.prog) (t := 27) (n := 1) (enc := c_api_Value))) ?_
                    exact Sub.of_le (AF.le_put (AV.le_eq rfl) (AF.le_put (AV.le_eq rfl) (AF.le_put (AV.le_eq rfl) (AF.le_put (AV.le_eq rfl) (AF.le_put (AV.le_eq rfl) (AF.le_put (AV.le_eq rfl) (AF.le_put (AV.le_eq rfl) (AF.le_put (AV.le_eq rfl) (AF.le_top _)))))))))
                  · unfold m_ref9_walk_B2 at h
                    refine k_seq ?_
                    refine k_seq ?_
                    refine k_reg .free hmixP (by kernel_rfl) ?_
                    refine G_q rfl (op_move (av := .exact (.int .i64 x14_l2)) rfl ?_)
                    refine G_q rfl (op_move (av := .exact (.int .i64 (bOr .i64 (i64 ((UInt8.toNat (gi a0 1) : Int) * 2 ^ min (Int.toNat 8) IntKind.i64.bits)) (UInt8.toNat (gi a0 2) : Int)))) rfl ?_)
                    refine G_q rfl (op_lss rfl rfl ?_)
                    refine G_nil ?_
                    refine kC_normal ?_
                    refine k_cond_d (p := x14_l2 < (bOr .i64 (i64 ((UInt8.toNat (gi a0 1) : Int) * 2 ^ min (Int.toNat 8) IntKind.i64.bits)) (UInt8.toNat (gi a0 2) : Int))) rfl (fun hc => ?_) (fun hc => ?_)
                    · replace h := ite_t h hc
                      refine k_skip ?_
                      refine kC_normal ?_
                      refine k_seq ?_
                      refine k_block ?_
                      refine k_seq ?_
                      refine k_reg .free hmixP (by kernel_rfl) ?_
                      refine G_q rfl (op_move (av := .exact (.string (bs a0))) rfl ?_)
                      refine G_q rfl (op_move (av := .exact (.int .i64 x11_l2)) rfl ?_)
                      obtain ⟨n40, h⟩ := need_some h
                      refine G_q rfl (op_slice_strd (by kernel_rfl) rfl (bnd_some rfl) bnd_none n40.1 n40.2 (Int.le_refl _) ?_)
                      refine G_q rfl (op_move (av := .exact (.int .i64 a1)) rfl ?_)
                      refine G_q rfl (op_sub rfl rfl rfl ?_)
                      refine G_q rfl (op_move (av := .exact (.bool a2)) rfl ?_)
                      obtain ⟨y41, hy41, h⟩ := bnd1_some h
                      refine G_q rfl (op_pure (hself_ref9_walk _ _ _ _ hy41) Tryz.func75 (by kernel_rfl) (LEs.cons (AV.le_eq rfl) (LEs.cons (AV.le_eq rfl) (LEs.cons (AV.le_eq rfl) LEs.nil))) ?_)
                      refine G_q rfl (op_move (av := .tup [.exact (.int .i64 y41.1), .row 1 c_api_Value y41.2.1, .exact (.int .i64 y41.2.2)]) rfl ?_)
                      refine G_q rfl (op_extract (av := .exact (.int .i64 y41.1)) rfl rfl ?_)
                      refine G_q rfl (op_extract (av := .row 1 c_api_Value y41.2.1) rfl rfl ?_)
                      refine G_q rfl (op_extract (av := .exact (.int .i64 y41.2.2)) rfl rfl ?_)
                      refine G_q rfl (op_assign (av := .exact (.int .i64 y41.1)) rfl ?_)
                      refine G_q rfl (op_assign (av := .row 1 c_api_Value y41.2.1) rfl ?_)
                      refine G_q rfl (op_assign (av := .exact (.int .i64 y41.2.2)) rfl ?_)
                      refine G_nil ?_
                      refine kC_normal ?_
                      refine k_seq ?_
                      refine k_seq ?_
                      refine k_reg .free hmixP (by kernel_rfl) ?_
                      refine G_q rfl (op_move (av := .exact (.int .i64 y41.1)) rfl ?_)
                      refine G_q rfl (op_eql rfl rfl ?_)
                      refine G_nil ?_
                      refine kC_normal ?_
                      refine k_cond_d (p := y41.1 = 0) rfl (fun hc => ?_) (fun hc => ?_)
                      · replace h := ite_t h hc
                        refine k_seq ?_
                        refine k_reg .free hmixP (by kernel_rfl) ?_
                        refine G_q rfl (op_assign (av := .exact (.int .i64 0)) rfl ?_)
                        refine G_q rfl (op_assign (av := .exact (.slice none 0 0)) rfl ?_)
                        refine G_q rfl (op_assign (av := .exact (.int .i64 0)) rfl ?_)
                        refine G_nil ?_
                        refine kC_normal ?_
                        refine k_ret ?_
                        refine kC_ret ?_
                        refine kB_ret ?_
                        refine kC_ret ?_
                        refine kI_ret ?_
                        refine kB_ret ?_
                        refine kI_ret ?_
                        obtain rfl := Option.some.inj h
                        refine kP_any (endN (af' := (AF.put (AF.put (AF.put AF0 (some 6) (.exact (.int .i64 0))) (some 7) (.row 1 c_api_Value [])) (some 8) (.exact (.int .i64 0)))) (σ' := []) _ rfl ?_ ⟨rfl, rfl⟩)
                        refine Sub.trans (SubU.to SubU.drop) ?_
                        exact Sub.of_le (AF.le_put (AV.le_eq rfl) (AF.le_put (row_nil (by decide)) (AF.le_put (AV.le_eq rfl) (AF.le_top _))))
                      · replace h := ite_f h hc
                        refine k_skip ?_
                        refine kC_normal ?_
                        refine k_seq ?_
                        refine k_reg .free hmixP (by kernel_rfl) ?_
                        refine G_q rfl (op_move (av := .exact v13_l2) rfl ?_)
                        refine G_q rfl (op_move (av := .exact (.string (bs a0))) rfl ?_)
                        refine G_q rfl (op_move (av := .exact (.int .i64 x11_l2)) rfl ?_)
                        refine G_q rfl (op_move (av := .exact (.int .i64 x11_l2)) rfl ?_)
                        refine G_q rfl (op_move (av := .exact (.int .i64 y41.1)) rfl ?_)
                        refine G_q rfl (op_add rfl rfl rfl ?_)
                        obtain ⟨n42, h⟩ := need_some h
                        refine G_q rfl (op_slice_str (by kernel_rfl) rfl (bnd_some rfl) (bnd_some rfl) n42.1 n42.2.1 n42.2.2 ?_)
                        refine G_q rfl (op_litT (n := 1) (enc := c_api_Value) [List.take (Int.toNat (i64 (x11_l2 + y41.1)) - Int.toNat x11_l2) (List.drop (Int.toNat x11_l2) a0)] (CellsAll.cons rfl CellsOf.str CellsAll.nil) rfl (by kernel_rfl) (LEss.cons (LEs.cons (AV.le_eq rfl) LEs.nil) LEss.nil) ?_)
                        obtain ⟨n43, h⟩ := need_some h
                        refine G_l rfl (op_appT (by kernel_rfl) rfl rfl oc_c_api_Value n43 (fun v44 => ?_))
                        refine G_q rfl (op_assign (av := .exact v44) rfl ?_)
                        refine G_nil ?_
                        refine kC_normal ?_
                        refine k_seq ?_
                        refine k_reg .free hmixP (by kernel_rfl) ?_
                        refine G_q rfl (op_move (av := .exact (.int .i64 x11_l2)) rfl ?_)
                        refine G_q rfl (op_move (av := .exact (.int .i64 y41.1)) rfl ?_)
                        refine G_q rfl (op_add rfl rfl rfl ?_)
                        refine G_q rfl (op_assign (av := .exact (.int .i64 (i64 (x11_l2 + y41.1)))) rfl ?_)
                        refine G_nil ?_
                        refine kC_normal ?_
                        refine k_reg .free hmixP (by kernel_rfl) ?_
                        refine G_q rfl (op_move (av := .exact (.int .i64 x12_l2)) rfl ?_)
                        refine G_q rfl (op_move (av := .exact (.int .i64 y41.2.2)) rfl ?_)
                        refine G_q rfl (op_max rfl rfl ?_)
                        refine G_q rfl (op_assign (av := .exact (.int .i64 (max x12_l2 y41.2.2))) rfl ?_)
                        refine G_nil ?_
                        refine kB_normal ?_
                        refine kC_normal ?_
                        refine k_reg .free hmixP (by kernel_rfl) ?_
                        refine G_q rfl (op_move (av := .exact (.int .i64 x14_l2)) rfl ?_)
                        refine G_q rfl (op_add rfl rfl rfl ?_)
                        refine G_q rfl (op_assign (av := .exact (.int .i64 (i64 (x14_l2 + 1)))) rfl ?_)
                        refine G_nil ?_
                        refine kI_normal ⟨_, _, _, _, v44, h, ?_⟩
                        exact Sub.of_le (AF.le_put (AV.le_eq rfl) (AF.le_put (AV.le_eq rfl) (AF.le_put (AV.le_eq rfl) (AF.le_put (AV.le_eq rfl) (AF.le_put (AV.le_eq rfl) (AF.le_put (AV.le_eq rfl) (AF.le_put (AV.le_eq rfl) (AF.le_put (AV.le_eq rfl) (AF.le_top _)))))))))
                    · replace h := ite_f h hc
                      refine k_exit ?_
                      refine kC_exit ?_
                      refine kI_exit ?_
                      refine kB_exit ?_
                      refine kI_normal ⟨_, _, _, v13_l2, h, ?_⟩
                      exact Sub.of_le (AF.le_put (AV.le_eq rfl) (AF.le_put (AV.le_eq rfl) (AF.le_put (AV.le_eq rfl) (AF.le_put (AV.le_eq rfl) (AF.le_put (AV.le_eq rfl) (AF.le_top _))))))
                · refine k_seq ?_
                  refine k_join2_0 h (fun (x13_j51 : List (List UInt8)) (x104_j51 : Bool) => (AF.put (AF.put (AF.put (AF.put AF0 (some 11) (.exact (.int .i64 x11_j13))) (some 12) (.exact (.int .i64 x12_j13))) (some 13) (.row 1 c_api_Value x13_j51)) (some 104) (.exact (.bool x104_j51)))) (fun (x13_j51 : List (List UInt8)) (x104_j51 : Bool) => []) (fun k51 h => ?_) (fun x13_j51 x104_j51 h => ?_)
                  · refine k_reg .free hmixP (by kernel_rfl) ?_
                    refine G_q rfl (op_move (av := .exact (.bool a2)) rfl ?_)
                    refine G_q rfl (op_move (av := .exact (.bool a2)) rfl ?_)
                    refine G_splitB (c := a2) 97 rfl (fun hc => ?_) (fun hc => ?_)
                    · replace h := ite_t h hc
                      refine Gy_q rfl rfl rfl (op_move (av := .exact (.string (bs a0))) rfl ?_)
                      obtain ⟨n54, h⟩ := need_some h
                      refine Gy_q rfl rfl rfl (op_index_str (by kernel_rfl) rfl rfl n54.1 n54.2 ?_)
                      refine Gy_q rfl rfl rfl (op_convInt (k := .i64) (r := (UInt8.toNat (gi a0 0) : Int)) (by kernel_rfl) rfl (wrap_u8 rfl _) ?_)
                      refine Gy_q rfl rfl rfl (op_move (av := .exact v13_j13) rfl ?_)
                      refine G_sub rfl (SubU.freezeT2 (s1 := 13) (s2 := 101) rfl rfl len_c_api_Value) ?_
                      obtain ⟨y55, hy55, h⟩ := bnd1_some h
                      refine Gy_q rfl rfl rfl (op_pure (m_ref9_parted_ok self_ref9_walk hself_ref9_walk self_ref9_order hself_ref9_order _ _ _ hy55) Tryz.func98 (by kernel_rfl) (LEs.cons (AV.le_eq rfl) (LEs.cons (AV.le_eq rfl) LEs.nil)) ?_)
                      refine Gy_q rfl rfl rfl (op_not rfl ?_)
                      refine G_q rfl (op_pick_t rfl (av := .exact (.bool (!y55))) rfl ?_)
                      refine G_nil ?_
                      refine kI_normal ⟨_, _, h, ?_⟩
                      exact Sub.of_le (AF.le_put (AV.le_eq rfl) (AF.le_put (AV.le_eq rfl) (AF.le_put (AV.le_eq rfl) (AF.le_put (AV.le_eq rfl) (AF.le_top _)))))
                    · replace h := ite_f h hc
                      refine G_n rfl rfl ?_
                      refine G_n rfl rfl ?_
                      refine G_n rfl rfl ?_
                      refine G_n rfl rfl ?_
                      refine G_n rfl rfl ?_
                      refine G_n rfl rfl ?_
                      refine G_q rfl (op_pick_f rfl (av := .exact (.bool false)) rfl ?_)
                      refine G_nil ?_
                      refine kI_normal ⟨_, _, h, ?_⟩
                      refine Sub.trans (SubU.to (SubU.freezeT (s := 13) rfl len_c_api_Value)) ?_
                      exact Sub.of_le (AF.le_put (AV.le_eq rfl) (AF.le_put (AV.le_eq rfl) (AF.le_put (AV.le_eq rfl) (AF.le_put (AV.le_eq rfl) (AF.le_top _)))))
                  · refine k_cond_b (c := x104_j51) rfl (fun hc => ?_) (fun hc => ?_)
                    · replace h := ite_t h hc
                      refine k_seq ?_
                      refine k_reg .free hmixP (by kernel_rfl) ?_
                      refine G_q rfl (op_assign (av := .exact (.int .i64 0)) rfl ?_)
                      refine G_q rfl (op_assign (av := .exact (.slice none 0 0)) rfl ?_)
                      refine G_q rfl (op_assign (av := .exact (.int .i64 0)) rfl ?_)
                      refine G_nil ?_
                      refine kC_normal ?_
                      refine k_ret ?_
                      refine kC_ret ?_
                      obtain rfl := Option.some.inj h
                      refine kP_any (endN (af' := (AF.put (AF.put (AF.put AF0 (some 6) (.exact (.int .i64 0))) (some 7) (.row 1 c_api_Value [])) (some 8) (.exact (.int .i64 0)))) (σ' := []) _ rfl ?_ ⟨rfl, rfl⟩)
                      exact Sub.of_le (AF.le_put (AV.le_eq rfl) (AF.le_put (row_nil (by decide)) (AF.le_put (AV.le_eq rfl) (AF.le_top _))))
                    · replace h := ite_f h hc
                      refine k_skip ?_
                      refine kC_normal ?_
                      refine k_seq ?_
                      refine k_reg .free hmixP (by kernel_rfl) ?_
                      refine G_q rfl (op_move (av := .exact (.int .i64 x11_j13)) rfl ?_)
                      refine G_q rfl (op_move (av := .row 1 c_api_Value x13_j51) rfl ?_)
                      refine G_q rfl (op_move (av := .exact (.int .i64 x12_j13)) rfl ?_)
                      refine G_q rfl (op_add rfl rfl rfl ?_)
                      refine G_q rfl (op_assign (av := .exact (.int .i64 x11_j13)) rfl ?_)
                      refine G_q rfl (op_assign (av := .row 1 c_api_Value x13_j51) rfl ?_)
                      refine G_q rfl (op_assign (av := .exact (.int .i64 (i64 (x12_j13 + 1)))) rfl ?_)
                      refine G_nil ?_
                      refine kC_normal ?_
                      refine k_ret ?_
                      obtain rfl := Option.some.inj h
                      refine kP_any (endN (af' := (AF.put (AF.put (AF.put AF0 (some 6) (.exact (.int .i64 x11_j13))) (some 7) (.row 1 c_api_Value x13_j51)) (some 8) (.exact (.int .i64 (i64 (x12_j13 + 1)))))) (σ' := []) _ rfl ?_ ⟨rfl, rfl⟩)
                      exact Sub.of_le (AF.le_put (AV.le_eq rfl) (AF.le_put (AV.le_eq rfl) (AF.le_put (AV.le_eq rfl) (AF.le_top _))))
set_option maxHeartbeats 4000000 in
theorem m_ref9_sign_ok (a0 : Bool) (a1 : Bool) (r : Int) (h : m_ref9_sign a0 a1 = some r) : Pure Tryz.prog 86 [(.exact (.bool a0)), (.exact (.bool a1))] (.exact (.int .i64 r)) := by
  unfold m_ref9_sign at h
  refine Pure.ofFun (fun_of_awp Tryz.func86 rfl Tryz.ntmps86 (by simp) rfl (res1 rfl) fun E hE => k_end ?_)
  refine k_seq ?_
  refine k_reg .free hmixP (by kernel_rfl) ?_
  refine G_q rfl (op_assign (av := .exact (.int .i64 0)) rfl ?_)
  refine G_nil ?_
  refine kC_normal ?_
  refine k_seq ?_
  refine k_block ?_
  refine k_seq ?_
  refine k_reg .free hmixP (by kernel_rfl) ?_
  refine G_q rfl (op_move (av := .exact (.bool a0)) rfl ?_)
  refine G_q rfl (op_assign (av := .exact (.bool a0)) rfl ?_)
  refine G_nil ?_
  refine kC_normal ?_
  refine k_cond_b (c := a0) rfl (fun hc => ?_) (fun hc => ?_)
  · replace h := ite_t h hc
    refine k_seq ?_
    refine k_reg .free hmixP (by kernel_rfl) ?_
    refine G_q rfl (op_assign (av := .exact (.int .i64 (-1))) rfl ?_)
    refine G_nil ?_
    refine kC_normal ?_
    refine k_ret ?_
    refine kB_ret ?_
    refine kC_ret ?_
    obtain rfl := Option.some.inj h
    refine kP_any (endN (af' := (AF.put AF0 (some 4) (.exact (.int .i64 (-1))))) (σ' := []) _ rfl ?_ ⟨rfl, rfl⟩)
    exact Sub.of_le (AF.le_put (AV.le_eq rfl) (AF.le_top _))
  · replace h := ite_f h hc
    refine k_seq ?_
    refine k_reg .free hmixP (by kernel_rfl) ?_
    refine G_q rfl (op_move (av := .exact (.bool a1)) rfl ?_)
    refine G_q rfl (op_assign (av := .exact (.bool a1)) rfl ?_)
    refine G_nil ?_
    refine kC_normal ?_
    refine k_cond_b (c := a1) rfl (fun hc => ?_) (fun hc => ?_)
    · replace h := ite_t h hc
      refine k_seq ?_
      refine k_reg .free hmixP (by kernel_rfl) ?_
      refine G_q rfl (op_assign (av := .exact (.int .i64 1)) rfl ?_)
      refine G_nil ?_
      refine kC_normal ?_
      refine k_ret ?_
      refine kB_ret ?_
      refine kC_ret ?_
      obtain rfl := Option.some.inj h
      refine kP_any (endN (af' := (AF.put AF0 (some 4) (.exact (.int .i64 1)))) (σ' := []) _ rfl ?_ ⟨rfl, rfl⟩)
      exact Sub.of_le (AF.le_put (AV.le_eq rfl) (AF.le_top _))
    · replace h := ite_f h hc
      refine k_skip ?_
      refine kB_normal ?_
      refine kC_normal ?_
      refine k_seq ?_
      refine k_reg .free hmixP (by kernel_rfl) ?_
      refine G_q rfl (op_assign (av := .exact (.int .i64 0)) rfl ?_)
      refine G_nil ?_
      refine kC_normal ?_
      refine k_ret ?_
      obtain rfl := Option.some.inj h
      refine kP_any (endN (af' := (AF.put AF0 (some 4) (.exact (.int .i64 0)))) (σ' := []) _ rfl ?_ ⟨rfl, rfl⟩)
      exact Sub.of_le (AF.le_put (AV.le_eq rfl) (AF.le_top _))
end Go.Proofs.YtdppkpiagdaigaaGreatDoor
/- The functions compute their models, by program. -/
namespace Go.Proofs.YtdppkpiagdaigaaGreatDoor
open Go.RowKit
attribute [local irreducible] AV.exact AV.top AV.row AV.ptr AV.agg AV.tup AV.eptr AV.fn AV.nilq AV.nilqn opA opB opM opR Quiet Loud Reads wpG awp den Sub SubU Pure Fun vecI vecT boxI CellsAll CellsOf OneC LEs LEss
set_option maxRecDepth 100000

set_option maxHeartbeats 4000000 in
theorem m_ref9_order_F_ok (self_ref9_walk : (List UInt8) → Int → Bool → Option (Int × (List (List UInt8)) × Int)) (hself_ref9_walk : ∀ (a0 : List UInt8) (a1 : Int) (a2 : Bool) (r : Int × (List (List UInt8)) × Int), self_ref9_walk a0 a1 a2 = some r → Pure Tryz.prog 75 [(.exact (.string (bs a0))), (.exact (.int .i64 a1)), (.exact (.bool a2))] (.tup [.exact (.int .i64 r.1), .row 1 c_api_Value r.2.1, .exact (.int .i64 r.2.2)])) (self_ref9_order : (List UInt8) → (List UInt8) → Option Int) (hself_ref9_order : ∀ (a0 : List UInt8) (a1 : List UInt8) (r : Int), self_ref9_order a0 a1 = some r → Pure Tryz.prog 85 [(.exact (.string (bs a0))), (.exact (.string (bs a1)))] (.exact (.int .i64 r))) (a0 : List UInt8) (a1 : List UInt8) (r : Int) (h : m_ref9_order_F self_ref9_walk self_ref9_order a0 a1 = some r) : Pure Tryz.prog 85 [(.exact (.string (bs a0))), (.exact (.string (bs a1)))] (.exact (.int .i64 r)) := by
  unfold m_ref9_order_F at h
  refine Pure.ofFun (fun_of_awp Tryz.func85 rfl Tryz.ntmps85 (by simp) rfl (res1 rfl) fun E hE => k_end ?_)
  refine k_seq ?_
  refine k_reg .free hmixP (by kernel_rfl) ?_
  refine G_q rfl (op_assign (av := .exact (.int .i64 0)) rfl ?_)
  refine G_nil ?_
  refine kC_normal ?_
  refine k_seq ?_
  refine k_block ?_
  refine k_seq ?_
  refine k_reg .free hmixP (by kernel_rfl) ?_
  refine G_q rfl (op_move (av := .exact (.string (bs a0))) rfl ?_)
  refine G_q rfl (op_move (av := .exact (.string (bs a1))) rfl ?_)
  refine G_q rfl (op_eqlS rfl rfl ?_)
  refine G_q rfl (op_assign (av := .exact (.bool (decide (a0 = a1)))) rfl ?_)
  refine G_nil ?_
  refine kC_normal ?_
  refine k_cond_d (p := a0 = a1) rfl (fun hc => ?_) (fun hc => ?_)
  · replace h := ite_t h hc
    refine k_seq ?_
    refine k_reg .free hmixP (by kernel_rfl) ?_
    refine G_q rfl (op_assign (av := .exact (.int .i64 0)) rfl ?_)
    refine G_nil ?_
    refine kC_normal ?_
    refine k_ret ?_
    refine kB_ret ?_
    refine kC_ret ?_
    obtain rfl := Option.some.inj h
    refine kP_any (endN (af' := (AF.put AF0 (some 4) (.exact (.int .i64 0)))) (σ' := []) _ rfl ?_ ⟨rfl, rfl⟩)
    exact Sub.of_le (AF.le_put (AV.le_eq rfl) (AF.le_top _))
  · replace h := ite_f h hc
    refine k_seq ?_
    refine k_plan [] [(0, 0), (0, 1), (0, 2), (0, 3), (0, 4), (0, 5)] hmixP (by kernel_rfl) ?_
    refine P_q no34_0 rfl (op_move (av := .exact (.string (bs a0))) rfl ?_)
    obtain ⟨n19, h⟩ := need_some h
    refine P_q no34_0 rfl (op_index_str (by kernel_rfl) rfl rfl n19.1 n19.2 ?_)
    refine P_q no34_0 rfl (op_move (av := .exact (.string (bs a1))) rfl ?_)
    obtain ⟨n20, h⟩ := need_some h
    refine P_q no34_0 rfl (op_index_str (by kernel_rfl) rfl rfl n20.1 n20.2 ?_)
    refine P_q no34_0 rfl (op_neqU (a := (gi a0 0)) (b := (gi a1 0)) rfl rfl ?_)
    refine P_q no34_0 rfl (op_assign (av := .exact (.bool (decide (¬ (gi a0 0) = (gi a1 0))))) rfl ?_)
    refine P_nil ?_
    refine kC_normal ?_
    refine k_cond_d (p := ¬ (gi a0 0) = (gi a1 0)) rfl (fun hc => ?_) (fun hc => ?_)
    · replace h := ite_t h hc
      refine k_seq ?_
      refine k_plan [] [(0, 0), (0, 1), (0, 2), (0, 3), (0, 4), (0, 5), (0, 6)] hmixP (by kernel_rfl) ?_
      refine P_q no34_0 rfl (op_move (av := .exact (.string (bs a0))) rfl ?_)
      obtain ⟨n21, h⟩ := need_some h
      refine P_q no34_0 rfl (op_index_str (by kernel_rfl) rfl rfl n21.1 n21.2 ?_)
      refine P_q no34_0 rfl (op_move (av := .exact (.string (bs a1))) rfl ?_)
      obtain ⟨n22, h⟩ := need_some h
      refine P_q no34_0 rfl (op_index_str (by kernel_rfl) rfl rfl n22.1 n22.2 ?_)
      refine P_q no34_0 rfl (op_lssU (a := (gi a0 0)) (b := (gi a1 0)) rfl rfl ?_)
      obtain ⟨y23, hy23, h⟩ := bnd1_some h
      refine P_q no34_0 rfl (op_pure (m_ref9_sign_ok _ _ _ hy23) Tryz.func86 (by kernel_rfl) (LEs.cons (AV.le_eq rfl) (LEs.cons (AV.le_eq rfl) LEs.nil)) ?_)
      refine P_q no34_0 rfl (op_assign (av := .exact (.int .i64 y23)) rfl ?_)
      refine P_nil ?_
      refine kC_normal ?_
      refine k_ret ?_
      refine kB_ret ?_
      refine kC_ret ?_
      obtain rfl := Option.some.inj h
      refine kP_any (endN (af' := (AF.put AF0 (some 4) (.exact (.int .i64 y23)))) (σ' := []) _ rfl ?_ ⟨rfl, rfl⟩)
      exact Sub.of_le (AF.le_put (AV.le_eq rfl) (AF.le_top _))
    · replace h := ite_f h hc
      refine k_seq ?_
      refine k_reg .free hmixP (by kernel_rfl) ?_
      refine G_q rfl (op_move (av := .exact (.string (bs a0))) rfl ?_)
      obtain ⟨n24, h⟩ := need_some h
      refine G_q rfl (op_index_str (by kernel_rfl) rfl rfl n24.1 n24.2 ?_)
      refine G_q rfl (op_convInt (k := .i64) (r := (UInt8.toNat (gi a0 0) : Int)) (by kernel_rfl) rfl (wrap_u8 rfl _) ?_)
      refine G_q rfl (op_eql rfl rfl ?_)
      refine G_q rfl (op_assign (av := .exact (.bool (decide ((UInt8.toNat (gi a0 0) : Int) = 1)))) rfl ?_)
      refine G_nil ?_
      refine kC_normal ?_
      refine k_cond_d (p := (UInt8.toNat (gi a0 0) : Int) = 1) rfl (fun hc => ?_) (fun hc => ?_)
      · replace h := ite_t h hc
        refine k_seq ?_
        refine k_plan [] [(0, 0), (0, 1), (0, 2), (0, 3), (0, 4), (0, 5), (0, 6), (0, 7)] hmixP (by kernel_rfl) ?_
        refine P_q no34_0 rfl (op_move (av := .exact (.string (bs a0))) rfl ?_)
        obtain ⟨n25, h⟩ := need_some h
        refine P_q no34_0 rfl (op_slice_strd (by kernel_rfl) rfl (bnd_some rfl) bnd_none (by decide) n25 (Int.le_refl _) ?_)
        obtain ⟨y26, hy26, h⟩ := bnd1_some h
        refine P_q no34_0 rfl (op_pure (m_ref9_number_ok _ _ hy26) Tryz.func76 (by kernel_rfl) (LEs.cons (AV.le_eq rfl) LEs.nil) ?_)
        refine P_q no34_0 rfl (op_move (av := .exact (.string (bs a1))) rfl ?_)
        obtain ⟨n27, h⟩ := need_some h
        refine P_q no34_0 rfl (op_slice_strd (by kernel_rfl) rfl (bnd_some rfl) bnd_none (by decide) n27 (Int.le_refl _) ?_)
        obtain ⟨y28, hy28, h⟩ := bnd1_some h
        refine P_q no34_0 rfl (op_pure (m_ref9_number_ok _ _ hy28) Tryz.func76 (by kernel_rfl) (LEs.cons (AV.le_eq rfl) LEs.nil) ?_)
        refine P_q no34_0 rfl (op_assign (av := .exact (.int .i64 y26)) rfl ?_)
        refine P_q no34_0 rfl (op_assign (av := .exact (.int .i64 y28)) rfl ?_)
        refine P_nil ?_
        refine kC_normal ?_
        refine k_seq ?_
        refine k_reg .free hmixP (by kernel_rfl) ?_
        refine G_q rfl (op_move (av := .exact (.int .i64 y26)) rfl ?_)
        refine G_q rfl (op_move (av := .exact (.int .i64 y28)) rfl ?_)
        refine G_q rfl (op_lss rfl rfl ?_)
        refine G_q rfl (op_move (av := .exact (.int .i64 y26)) rfl ?_)
        refine G_q rfl (op_move (av := .exact (.int .i64 y28)) rfl ?_)
        refine G_q rfl (op_gtr rfl rfl ?_)
        obtain ⟨y29, hy29, h⟩ := bnd1_some h
        refine G_q rfl (op_pure (m_ref9_sign_ok _ _ _ hy29) Tryz.func86 (by kernel_rfl) (LEs.cons (AV.le_eq rfl) (LEs.cons (AV.le_eq rfl) LEs.nil)) ?_)
        refine G_q rfl (op_assign (av := .exact (.int .i64 y29)) rfl ?_)
        refine G_nil ?_
        refine kC_normal ?_
        refine k_ret ?_
        refine kB_ret ?_
        refine kC_ret ?_
        obtain rfl := Option.some.inj h
        refine kP_any (endN (af' := (AF.put AF0 (some 4) (.exact (.int .i64 y29)))) (σ' := []) _ rfl ?_ ⟨rfl, rfl⟩)
        exact Sub.of_le (AF.le_put (AV.le_eq rfl) (AF.le_top _))
      · replace h := ite_f h hc
        refine k_join1_0 h (fun (x49_j30 : Bool) => (AF.put (AF.put (AF.put AF0 (some 0) (.exact (.string (bs a0)))) (some 1) (.exact (.string (bs a1)))) (some 49) (.exact (.bool x49_j30)))) (fun (x49_j30 : Bool) => []) (fun k30 h => ?_) (fun x49_j30 h => ?_)
        · refine k_reg .free hmixP (by kernel_rfl) ?_
          refine G_q rfl (op_move (av := .exact (.string (bs a0))) rfl ?_)
          obtain ⟨n33, h⟩ := need_some h
          refine G_q rfl (op_index_str (by kernel_rfl) rfl rfl n33.1 n33.2 ?_)
          refine G_q rfl (op_convInt (k := .i64) (r := (UInt8.toNat (gi a0 0) : Int)) (by kernel_rfl) rfl (wrap_u8 rfl _) ?_)
          refine G_q rfl (op_eql rfl rfl ?_)
          refine G_q rfl (op_move (av := .exact (.bool (decide ((UInt8.toNat (gi a0 0) : Int) = 2)))) rfl ?_)
          refine G_split (p := (UInt8.toNat (gi a0 0) : Int) = 2) 54 rfl (fun hc => ?_) (fun hc => ?_)
          · replace h := ite_t h hc
            refine G_n rfl rfl ?_
            refine G_n rfl rfl ?_
            refine G_n rfl rfl ?_
            refine G_n rfl rfl ?_
            refine G_q rfl (op_pick_t rfl (av := .exact (.bool true)) rfl ?_)
            refine G_q rfl (op_assign (av := .exact (.bool true)) rfl ?_)
            refine G_nil ?_
            refine kI_normal ⟨_, h, ?_⟩
            exact Sub.of_le (AF.le_put (AV.le_eq rfl) (AF.le_put (AV.le_eq rfl) (AF.le_put (AV.le_eq rfl) (AF.le_top _))))
          · replace h := ite_f h hc
            refine Gy_q rfl rfl rfl (op_move (av := .exact (.string (bs a0))) rfl ?_)
            obtain ⟨n34, h⟩ := need_some h
            refine Gy_q rfl rfl rfl (op_index_str (by kernel_rfl) rfl rfl n34.1 n34.2 ?_)
            refine Gy_q rfl rfl rfl (op_convInt (k := .i64) (r := (UInt8.toNat (gi a0 0) : Int)) (by kernel_rfl) rfl (wrap_u8 rfl _) ?_)
            refine Gy_q rfl rfl rfl (op_eql rfl rfl ?_)
            refine G_q rfl (op_pick_f rfl (av := .exact (.bool (decide ((UInt8.toNat (gi a0 0) : Int) = 10)))) rfl ?_)
            refine G_q rfl (op_assign (av := .exact (.bool (decide ((UInt8.toNat (gi a0 0) : Int) = 10)))) rfl ?_)
            refine G_nil ?_
            refine kI_normal ⟨_, h, ?_⟩
            exact Sub.of_le (AF.le_put (AV.le_eq rfl) (AF.le_put (AV.le_eq rfl) (AF.le_put (AV.le_eq rfl) (AF.le_top _))))
        · refine k_cond_b (c := x49_j30) rfl (fun hc => ?_) (fun hc => ?_)
          · replace h := ite_t h hc
            refine k_seq ?_
            refine k_reg .free hmixP (by kernel_rfl) ?_
            refine G_q rfl (op_move (av := .exact (.string (bs a0))) rfl ?_)
            refine G_q rfl (op_move (av := .exact (.string (bs a1))) rfl ?_)
            refine G_q rfl (op_lssS rfl rfl ?_)
            refine G_q rfl (op_move (av := .exact (.string (bs a0))) rfl ?_)
            refine G_q rfl (op_move (av := .exact (.string (bs a1))) rfl ?_)
            refine G_q rfl (op_gtrS rfl rfl ?_)
            obtain ⟨y35, hy35, h⟩ := bnd1_some h
            refine G_q rfl (op_pure (m_ref9_sign_ok _ _ _ hy35) Tryz.func86 (by kernel_rfl) (LEs.cons (AV.le_eq rfl) (LEs.cons (AV.le_eq rfl) LEs.nil)) ?_)
            refine G_q rfl (op_assign (av := .exact (.int .i64 y35)) rfl ?_)
            refine G_nil ?_
            refine kC_normal ?_
            refine k_ret ?_
            refine kB_ret ?_
            refine kC_ret ?_
            obtain rfl := Option.some.inj h
            refine kP_any (endN (af' := (AF.put AF0 (some 4) (.exact (.int .i64 y35)))) (σ' := []) _ rfl ?_ ⟨rfl, rfl⟩)
            exact Sub.of_le (AF.le_put (AV.le_eq rfl) (AF.le_top _))
          · replace h := ite_f h hc
            refine k_skip ?_
            refine kB_normal ?_
            refine kC_normal ?_
            refine k_seq ?_
            refine k_reg .free hmixP (by kernel_rfl) ?_
            refine G_q rfl (op_move (av := .exact (.string (bs a0))) rfl ?_)
            obtain ⟨y36, hy36, h⟩ := bnd1_some h
            refine G_q rfl (op_pure (hself_ref9_walk _ _ _ _ hy36) Tryz.func75 (by kernel_rfl) (LEs.cons (AV.le_eq rfl) (LEs.cons (AV.le_eq rfl) (LEs.cons (AV.le_eq rfl) LEs.nil))) ?_)
            refine G_q rfl (op_move (av := .tup [.exact (.int .i64 y36.1), .row 1 c_api_Value y36.2.1, .exact (.int .i64 y36.2.2)]) rfl ?_)
            refine G_q rfl (op_extract (av := .exact (.int .i64 y36.1)) rfl rfl ?_)
            refine G_q rfl (op_extract (av := .row 1 c_api_Value y36.2.1) rfl rfl ?_)
            refine G_q rfl (op_extract (av := .exact (.int .i64 y36.2.2)) rfl rfl ?_)
            refine G_q rfl (op_assign (av := .exact (.int .i64 y36.1)) rfl ?_)
            refine G_q rfl (op_assign (av := .row 1 c_api_Value y36.2.1) rfl ?_)
            refine G_q rfl (op_assign (av := .exact (.int .i64 y36.2.2)) rfl ?_)
            refine G_nil ?_
            refine kC_normal ?_
            refine k_seq ?_
            refine k_reg .free hmixP (by kernel_rfl) ?_
            refine G_q rfl (op_move (av := .exact (.string (bs a1))) rfl ?_)
            obtain ⟨y37, hy37, h⟩ := bnd1_some h
            refine G_q rfl (op_pure (hself_ref9_walk _ _ _ _ hy37) Tryz.func75 (by kernel_rfl) (LEs.cons (AV.le_eq rfl) (LEs.cons (AV.le_eq rfl) (LEs.cons (AV.le_eq rfl) LEs.nil))) ?_)
            refine G_q rfl (op_move (av := .tup [.exact (.int .i64 y37.1), .row 1 c_api_Value y37.2.1, .exact (.int .i64 y37.2.2)]) rfl ?_)
            refine G_q rfl (op_extract (av := .exact (.int .i64 y37.1)) rfl rfl ?_)
            refine G_q rfl (op_extract (av := .row 1 c_api_Value y37.2.1) rfl rfl ?_)
            refine G_q rfl (op_extract (av := .exact (.int .i64 y37.2.2)) rfl rfl ?_)
            refine G_q rfl (op_assign (av := .exact (.int .i64 y37.1)) rfl ?_)
            refine G_q rfl (op_assign (av := .row 1 c_api_Value y37.2.1) rfl ?_)
            refine G_q rfl (op_assign (av := .exact (.int .i64 y37.2.2)) rfl ?_)
            refine G_nil ?_
            refine kC_normal ?_
            refine k_join0_0 h ((AF.put (AF.put AF0 (some 8) (.row 1 c_api_Value y36.2.1)) (some 11) (.row 1 c_api_Value y37.2.1))) ([]) (fun k38 h => ?_) (fun  h => ?_)
            · refine k_seq ?_
              refine k_reg .free hmixP (by kernel_rfl) ?_
              refine G_q rfl (op_assign (av := .exact (.int .i64 0)) rfl ?_)
              refine G_nil ?_
              refine kC_normal ?_
              refine k_block ?_
              refine k_loop1_0 (m_ref9_order_L2 self_ref9_order y36 y37 k38) (m_ref9_order_B2 self_ref9_order y36 y37 k38) (fun _ => rfl) (fun m _ => rfl) h (fun (x13_l2 : Int) => (AF.put (AF.put (AF.put AF0 (some 8) (.row 1 c_api_Value y36.2.1)) (some 11) (.row 1 c_api_Value y37.2.1)) (some 13) (.exact (.int .i64 x13_l2)))) (fun (x13_l2 : Int) => []) ?_ (fun rec2 x13_l2 h => ?_)
              · exact Sub.of_le (AF.le_put (AV.le_eq rfl) (AF.le_put (AV.le_eq rfl) (AF.le_put (AV.le_eq rfl) (AF.le_top _))))
              · unfold m_ref9_order_B2 at h
                refine k_seq ?_
                refine k_join1_0 h (fun (x88_j72 : Bool) => (AF.put (AF.put (AF.put (AF.put AF0 (some 8) (.row 1 c_api_Value y36.2.1)) (some 11) (.row 1 c_api_Value y37.2.1)) (some 13) (.exact (.int .i64 x13_l2))) (some 88) (.exact (.bool x88_j72)))) (fun (x88_j72 : Bool) => []) (fun k72 h => ?_) (fun x88_j72 h => ?_)
                · refine k_reg .free hmixP (by kernel_rfl) ?_
                  refine G_q rfl (op_move (av := .exact (.int .i64 x13_l2)) rfl ?_)
                  refine G_q rfl (op_move (av := .row 1 c_api_Value y36.2.1) rfl ?_)
                  refine G_q rfl (op_len_row (by kernel_rfl) rfl ?_)
                  refine G_q rfl (op_lss rfl rfl ?_)
                  refine G_q rfl (op_move (av := .exact (.bool (decide (x13_l2 < (List.length y36.2.1 : Int))))) rfl ?_)
                  refine G_split (p := x13_l2 < (List.length y36.2.1 : Int)) 83 rfl (fun hc => ?_) (fun hc => ?_)
                  · replace h := ite_t h hc
                    refine Gy_q rfl rfl rfl (op_move (av := .exact (.int .i64 x13_l2)) rfl ?_)
                    refine Gy_q rfl rfl rfl (op_move (av := .row 1 c_api_Value y37.2.1) rfl ?_)
                    refine Gy_q rfl rfl rfl (op_len_row (by kernel_rfl) rfl ?_)
                    refine Gy_q rfl rfl rfl (op_lss rfl rfl ?_)
                    refine G_q rfl (op_pick_t rfl (av := .exact (.bool (decide (x13_l2 < (List.length y37.2.1 : Int))))) rfl ?_)
                    refine G_nil ?_
                    refine kI_normal ⟨_, h, ?_⟩
                    exact Sub.of_le (AF.le_put (AV.le_eq rfl) (AF.le_put (AV.le_eq rfl) (AF.le_put (AV.le_eq rfl) (AF.le_put (AV.le_eq rfl) (AF.le_top _)))))
                  · replace h := ite_f h hc
                    refine G_n rfl rfl ?_
                    refine G_n rfl rfl ?_
                    refine G_n rfl rfl ?_
                    refine G_n rfl rfl ?_
                    refine G_q rfl (op_pick_f rfl (av := .exact (.bool false)) rfl ?_)
                    refine G_nil ?_
                    refine kI_normal ⟨_, h, ?_⟩
                    exact Sub.of_le (AF.le_put (AV.le_eq rfl) (AF.le_put (AV.le_eq rfl) (AF.le_put (AV.le_eq rfl) (AF.le_put (AV.le_eq rfl) (AF.le_top _)))))
                · refine k_cond_b (c := x88_j72) rfl (fun hc => ?_) (fun hc => ?_)
                  · replace h := ite_t h hc
                    refine k_skip ?_
                    refine kC_normal ?_
                    refine k_seq ?_
                    refine k_block ?_
                    refine k_seq ?_
                    refine k_plan [] [(0, 0), (0, 1), (0, 2), (0, 3), (0, 4), (0, 5), (0, 6), (0, 7), (0, 8), (0, 9)] hmixP (by kernel_rfl) ?_
                    refine P_q no34_0 rfl (op_move (av := .row 1 c_api_Value y36.2.1) rfl ?_)
                    refine P_q no34_0 rfl (op_move (av := .exact (.int .i64 x13_l2)) rfl ?_)
                    obtain ⟨n73, h⟩ := need_some h
                    refine P_q no34_0 rfl (op_index_row (by kernel_rfl) rfl rfl n73.1 n73.2 ?_)
                    refine P_q no34_0 rfl (op_load1p (a := .exact (.string (bs (gi y36.2.1 x13_l2)))) (by kernel_rfl) rfl rfl ?_)
                    refine P_q no34_0 rfl (op_move (av := .row 1 c_api_Value y37.2.1) rfl ?_)
                    refine P_q no34_0 rfl (op_move (av := .exact (.int .i64 x13_l2)) rfl ?_)
                    obtain ⟨n74, h⟩ := need_some h
                    refine P_q no34_0 rfl (op_index_row (by kernel_rfl) rfl rfl n74.1 n74.2 ?_)
                    refine P_q no34_0 rfl (op_load1p (a := .exact (.string (bs (gi y37.2.1 x13_l2)))) (by kernel_rfl) rfl rfl ?_)
                    obtain ⟨y75, hy75, h⟩ := bnd1_some h
                    refine P_q no34_0 rfl (op_pure (hself_ref9_order _ _ _ hy75) Tryz.func85 (by kernel_rfl) (LEs.cons (AV.le_eq rfl) (LEs.cons (AV.le_eq rfl) LEs.nil)) ?_)
                    refine P_q no34_0 rfl (op_assign (av := .exact (.int .i64 y75)) rfl ?_)
                    refine P_nil ?_
                    refine kC_normal ?_
                    refine k_seq ?_
                    refine k_reg .free hmixP (by kernel_rfl) ?_
                    refine G_q rfl (op_move (av := .exact (.int .i64 y75)) rfl ?_)
                    refine G_q rfl (op_neq rfl rfl ?_)
                    refine G_nil ?_
                    refine kC_normal ?_
                    refine k_cond_d (p := ¬ y75 = 0) rfl (fun hc => ?_) (fun hc => ?_)
                    · replace h := ite_t h hc
                      refine k_seq ?_
                      refine k_reg .free hmixP (by kernel_rfl) ?_
                      refine G_q rfl (op_move (av := .exact (.int .i64 y75)) rfl ?_)
                      refine G_q rfl (op_assign (av := .exact (.int .i64 y75)) rfl ?_)
                      refine G_nil ?_
                      refine kC_normal ?_
                      refine k_ret ?_
                      refine kB_ret ?_
                      refine kC_ret ?_
                      refine kI_ret ?_
                      refine kB_ret ?_
                      refine kI_ret ?_
                      obtain rfl := Option.some.inj h
                      refine kP_any (endN (af' := (AF.put AF0 (some 4) (.exact (.int .i64 y75)))) (σ' := []) _ rfl ?_ ⟨rfl, rfl⟩)
                      exact Sub.of_le (AF.le_put (AV.le_eq rfl) (AF.le_top _))
                    · replace h := ite_f h hc
                      refine k_skip ?_
                      refine kB_normal ?_
                      refine kC_normal ?_
                      refine k_reg .free hmixP (by kernel_rfl) ?_
                      refine G_q rfl (op_move (av := .exact (.int .i64 x13_l2)) rfl ?_)
                      refine G_q rfl (op_add rfl rfl rfl ?_)
                      refine G_q rfl (op_assign (av := .exact (.int .i64 (i64 (x13_l2 + 1)))) rfl ?_)
                      refine G_nil ?_
                      refine kI_normal ⟨_, h, ?_⟩
                      exact Sub.of_le (AF.le_put (AV.le_eq rfl) (AF.le_put (AV.le_eq rfl) (AF.le_put (AV.le_eq rfl) (AF.le_top _))))
                  · replace h := ite_f h hc
                    refine k_exit ?_
                    refine kC_exit ?_
                    refine kI_exit ?_
                    refine kB_exit ?_
                    refine kI_normal ⟨h, ?_⟩
                    exact Sub.of_le (AF.le_put (AV.le_eq rfl) (AF.le_put (AV.le_eq rfl) (AF.le_top _)))
            · refine k_seq ?_
              refine k_reg .free hmixP (by kernel_rfl) ?_
              refine G_q rfl (op_move (av := .row 1 c_api_Value y36.2.1) rfl ?_)
              refine G_q rfl (op_len_row (by kernel_rfl) rfl ?_)
              refine G_q rfl (op_move (av := .row 1 c_api_Value y37.2.1) rfl ?_)
              refine G_q rfl (op_len_row (by kernel_rfl) rfl ?_)
              refine G_q rfl (op_lss rfl rfl ?_)
              refine G_q rfl (op_move (av := .row 1 c_api_Value y36.2.1) rfl ?_)
              refine G_q rfl (op_len_row (by kernel_rfl) rfl ?_)
              refine G_q rfl (op_move (av := .row 1 c_api_Value y37.2.1) rfl ?_)
              refine G_q rfl (op_len_row (by kernel_rfl) rfl ?_)
              refine G_q rfl (op_gtr rfl rfl ?_)
              obtain ⟨y76, hy76, h⟩ := bnd1_some h
              refine G_q rfl (op_pure (m_ref9_sign_ok _ _ _ hy76) Tryz.func86 (by kernel_rfl) (LEs.cons (AV.le_eq rfl) (LEs.cons (AV.le_eq rfl) LEs.nil)) ?_)
              refine G_q rfl (op_assign (av := .exact (.int .i64 y76)) rfl ?_)
              refine G_nil ?_
              refine kC_normal ?_
              refine k_ret ?_
              obtain rfl := Option.some.inj h
              refine kP_any (endN (af' := (AF.put AF0 (some 4) (.exact (.int .i64 y76)))) (σ' := []) _ rfl ?_ ⟨rfl, rfl⟩)
              exact Sub.of_le (AF.le_put (AV.le_eq rfl) (AF.le_top _))
set_option maxHeartbeats 4000000 in
theorem m_ref9_walk_S_ok : ∀ n : Nat, (∀ (a0 : List UInt8) (a1 : Int) (a2 : Bool) (r : Int × (List (List UInt8)) × Int), (m_ref9_walk_S n).1 a0 a1 a2 = some r → Pure Tryz.prog 75 [(.exact (.string (bs a0))), (.exact (.int .i64 a1)), (.exact (.bool a2))] (.tup [.exact (.int .i64 r.1), .row 1 c_api_Value r.2.1, .exact (.int .i64 r.2.2)])) ∧ (∀ (a0 : List UInt8) (a1 : List UInt8) (r : Int), (m_ref9_walk_S n).2 a0 a1 = some r → Pure Tryz.prog 85 [(.exact (.string (bs a0))), (.exact (.string (bs a1)))] (.exact (.int .i64 r)))
  | 0 => ⟨(fun _ _ _ _ h => by have h' : (none : Option _) = some _ := h; cases h'), (fun _ _ _ h => by have h' : (none : Option _) = some _ := h; cases h')⟩
  | n + 1 => by
    have ih := m_ref9_walk_S_ok n
    exact ⟨fun a0 a1 a2 r h => m_ref9_walk_F_ok (m_ref9_walk_S n).1 ih.1 (m_ref9_walk_S n).2 ih.2 a0 a1 a2 r h, fun a0 a1 r h => m_ref9_order_F_ok (m_ref9_walk_S n).1 ih.1 (m_ref9_walk_S n).2 ih.2 a0 a1 r h⟩
theorem m_ref9_walk_ok (a0 : List UInt8) (a1 : Int) (a2 : Bool) (r : Int × (List (List UInt8)) × Int) (h : m_ref9_walk a0 a1 a2 = some r) : Pure Tryz.prog 75 [(.exact (.string (bs a0))), (.exact (.int .i64 a1)), (.exact (.bool a2))] (.tup [.exact (.int .i64 r.1), .row 1 c_api_Value r.2.1, .exact (.int .i64 r.2.2)]) := (m_ref9_walk_S_ok FU).1 a0 a1 a2 r h
theorem m_ref9_order_ok (a0 : List UInt8) (a1 : List UInt8) (r : Int) (h : m_ref9_order a0 a1 = some r) : Pure Tryz.prog 85 [(.exact (.string (bs a0))), (.exact (.string (bs a1)))] (.exact (.int .i64 r)) := (m_ref9_walk_S_ok FU).2 a0 a1 r h
set_option maxHeartbeats 4000000 in
theorem m_ref9_read_ok (a0 : List UInt8) (a1 : Int) (r : Int × (List (List UInt8)) × Int) (h : m_ref9_read a0 a1 = some r) : Pure Tryz.prog 87 [(.exact (.string (bs a0))), (.exact (.int .i64 a1))] (.tup [.exact (.int .i64 r.1), .row 1 c_api_Value r.2.1, .exact (.int .i64 r.2.2)]) := by
  unfold m_ref9_read at h
  refine Pure.ofFun (fun_of_awp Tryz.func87 rfl Tryz.ntmps87 (by simp) rfl (res3 rfl) fun E hE => k_end ?_)
  refine k_seq ?_
  refine k_reg .free hmixP (by kernel_rfl) ?_
  refine G_q rfl (op_assign (av := .exact (.int .i64 0)) rfl ?_)
  refine G_q rfl (op_assign (av := .exact (.slice none 0 0)) rfl ?_)
  refine G_q rfl (op_assign (av := .exact (.int .i64 0)) rfl ?_)
  refine G_nil ?_
  refine kC_normal ?_
  refine k_seq ?_
  refine k_reg .free hmixP (by kernel_rfl) ?_
  refine G_q rfl (op_move (av := .exact (.string (bs a0))) rfl ?_)
  refine G_q rfl (op_move (av := .exact (.int .i64 a1)) rfl ?_)
  obtain ⟨y1, hy1, h⟩ := bnd1_some h
  refine G_q rfl (op_pure (m_ref9_walk_ok _ _ _ _ hy1) Tryz.func75 (by kernel_rfl) (LEs.cons (AV.le_eq rfl) (LEs.cons (AV.le_eq rfl) (LEs.cons (AV.le_eq rfl) LEs.nil))) ?_)
  refine G_q rfl (op_extract (av := .exact (.int .i64 y1.1)) rfl rfl ?_)
  refine G_q rfl (op_extract (av := .row 1 c_api_Value y1.2.1) rfl rfl ?_)
  refine G_q rfl (op_extract (av := .exact (.int .i64 y1.2.2)) rfl rfl ?_)
  refine G_q rfl (op_assign (av := .exact (.int .i64 y1.1)) rfl ?_)
  refine G_q rfl (op_assign (av := .row 1 c_api_Value y1.2.1) rfl ?_)
  refine G_q rfl (op_assign (av := .exact (.int .i64 y1.2.2)) rfl ?_)
  refine G_nil ?_
  refine kC_normal ?_
  refine k_ret ?_
  obtain rfl := Option.some.inj h
  refine kP_any (endN (af' := (AF.put (AF.put (AF.put AF0 (some 4) (.exact (.int .i64 y1.1))) (some 5) (.row 1 c_api_Value y1.2.1)) (some 6) (.exact (.int .i64 y1.2.2)))) (σ' := []) _ rfl ?_ ⟨rfl, rfl⟩)
  exact Sub.of_le (AF.le_put (AV.le_eq rfl) (AF.le_put (AV.le_eq rfl) (AF.le_put (AV.le_eq rfl) (AF.le_top _))))
set_option maxHeartbeats 4000000 in
theorem m_ref9_Valid_ok (a0 : List UInt8) (r : Bool) (h : m_ref9_Valid a0 = some r) : Pure Tryz.prog 74 [(.exact (.string (bs a0)))] (.exact (.bool r)) := by
  unfold m_ref9_Valid at h
  refine Pure.ofFun (fun_of_awp Tryz.func74 rfl Tryz.ntmps74 (by simp) rfl (res1 rfl) fun E hE => k_end ?_)
  refine k_seq ?_
  refine k_reg .free hmixP (by kernel_rfl) ?_
  refine G_q rfl (op_assign (av := .exact (.bool false)) rfl ?_)
  refine G_nil ?_
  refine kC_normal ?_
  refine k_seq ?_
  refine k_seq ?_
  refine k_reg .free hmixP (by kernel_rfl) ?_
  refine G_q rfl (op_move (av := .exact (.string (bs a0))) rfl ?_)
  refine G_q rfl (op_lenS (by kernel_rfl) rfl ?_)
  refine G_q rfl (op_gtr rfl rfl ?_)
  refine G_nil ?_
  refine kC_normal ?_
  refine k_cond_d (p := 131072 < (List.length a0 : Int)) rfl (fun hc => ?_) (fun hc => ?_)
  · replace h := ite_t h hc
    refine k_seq ?_
    refine k_reg .free hmixP (by kernel_rfl) ?_
    refine G_q rfl (op_assign (av := .exact (.bool false)) rfl ?_)
    refine G_nil ?_
    refine kC_normal ?_
    refine k_ret ?_
    refine kC_ret ?_
    obtain rfl := Option.some.inj h
    refine kP_any (endN (af' := (AF.put AF0 (some 2) (.exact (.bool false)))) (σ' := []) _ rfl ?_ ⟨rfl, rfl⟩)
    exact Sub.of_le (AF.le_put (AV.le_eq rfl) (AF.le_top _))
  · replace h := ite_f h hc
    refine k_skip ?_
    refine kC_normal ?_
    refine k_seq ?_
    refine k_reg .free hmixP (by kernel_rfl) ?_
    refine G_q rfl (op_move (av := .exact (.string (bs a0))) rfl ?_)
    obtain ⟨y1, hy1, h⟩ := bnd1_some h
    refine G_q rfl (op_pure (m_ref9_read_ok _ _ _ hy1) Tryz.func87 (by kernel_rfl) (LEs.cons (AV.le_eq rfl) (LEs.cons (AV.le_eq rfl) LEs.nil)) ?_)
    refine G_q rfl (op_move (av := .tup [.exact (.int .i64 y1.1), .row 1 c_api_Value y1.2.1, .exact (.int .i64 y1.2.2)]) rfl ?_)
    refine G_q rfl (op_extract (av := .exact (.int .i64 y1.1)) rfl rfl ?_)
    refine G_q rfl (op_extract (av := .row 1 c_api_Value y1.2.1) rfl rfl ?_)
    refine G_q rfl (op_extract (av := .exact (.int .i64 y1.2.2)) rfl rfl ?_)
    refine G_q rfl (op_assign (av := .exact (.int .i64 y1.1)) rfl ?_)
    refine G_q rfl (op_assign (av := .row 1 c_api_Value y1.2.1) rfl ?_)
    refine G_q rfl (op_assign (av := .exact (.int .i64 y1.2.2)) rfl ?_)
    refine G_nil ?_
    refine kC_normal ?_
    refine k_join1_0 h (fun (x2_j2 : Bool) => (AF.put AF0 (some 2) (.exact (.bool x2_j2)))) (fun (x2_j2 : Bool) => []) (fun k2 h => ?_) (fun x2_j2 h => ?_)
    · refine k_reg .free hmixP (by kernel_rfl) ?_
      refine G_q rfl (op_move (av := .exact (.int .i64 y1.1)) rfl ?_)
      refine G_q rfl (op_gtr rfl rfl ?_)
      refine G_q rfl (op_move (av := .exact (.bool (decide (0 < y1.1)))) rfl ?_)
      refine G_split (p := 0 < y1.1) 17 rfl (fun hc => ?_) (fun hc => ?_)
      · replace h := ite_t h hc
        refine Gy_q rfl rfl rfl (op_move (av := .exact (.int .i64 y1.1)) rfl ?_)
        refine Gy_q rfl rfl rfl (op_move (av := .exact (.string (bs a0))) rfl ?_)
        refine Gy_q rfl rfl rfl (op_lenS (by kernel_rfl) rfl ?_)
        refine Gy_q rfl rfl rfl (op_eql rfl rfl ?_)
        refine G_q rfl (op_pick_t rfl (av := .exact (.bool (decide (y1.1 = (List.length a0 : Int))))) rfl ?_)
        refine G_q rfl (op_assign (av := .exact (.bool (decide (y1.1 = (List.length a0 : Int))))) rfl ?_)
        refine G_nil ?_
        refine kI_normal ⟨_, h, ?_⟩
        exact Sub.of_le (AF.le_put (AV.le_eq rfl) (AF.le_top _))
      · replace h := ite_f h hc
        refine G_n rfl rfl ?_
        refine G_n rfl rfl ?_
        refine G_n rfl rfl ?_
        refine G_n rfl rfl ?_
        refine G_q rfl (op_pick_f rfl (av := .exact (.bool false)) rfl ?_)
        refine G_q rfl (op_assign (av := .exact (.bool false)) rfl ?_)
        refine G_nil ?_
        refine kI_normal ⟨_, h, ?_⟩
        exact Sub.of_le (AF.le_put (AV.le_eq rfl) (AF.le_top _))
    · refine k_ret ?_
      obtain rfl := Option.some.inj h
      refine kP_any (endN (af' := (AF.put AF0 (some 2) (.exact (.bool x2_j2)))) (σ' := []) _ rfl ?_ ⟨rfl, rfl⟩)
      exact Sub.of_le (AF.le_put (AV.le_eq rfl) (AF.le_top _))
set_option maxHeartbeats 4000000 in
theorem m_ref9_all_ok (a0 : List (List UInt8)) (r : Bool) (h : m_ref9_all a0 = some r) : Pure Tryz.prog 62 [(.row 1 c_api_Value a0)] (.exact (.bool r)) := by
  unfold m_ref9_all at h
  refine Pure.ofFun (fun_of_awp Tryz.func62 rfl Tryz.ntmps62 (by simp) rfl (res1 rfl) fun E hE => k_end ?_)
  refine k_seq ?_
  refine k_reg .free hmixP (by kernel_rfl) ?_
  refine G_q rfl (op_assign (av := .exact (.bool false)) rfl ?_)
  refine G_nil ?_
  refine kC_normal ?_
  refine k_join0_0 h (AF0) ([]) (fun k1 h => ?_) (fun  h => ?_)
  · refine k_seq ?_
    refine k_reg .free hmixP (by kernel_rfl) ?_
    refine G_q rfl (op_assign (av := .exact (.int .i64 0)) rfl ?_)
    refine G_nil ?_
    refine kC_normal ?_
    refine k_block ?_
    refine k_loop1_0 (m_ref9_all_L2 a0 k1) (m_ref9_all_B2 a0 k1) (fun _ => rfl) (fun m _ => rfl) h (fun (x3_l2 : Int) => (AF.put (AF.put AF0 (some 0) (.row 1 c_api_Value a0)) (some 3) (.exact (.int .i64 x3_l2)))) (fun (x3_l2 : Int) => []) ?_ (fun rec2 x3_l2 h => ?_)
    · exact Sub.of_le (AF.le_put (AV.le_eq rfl) (AF.le_put (AV.le_eq rfl) (AF.le_top _)))
    · unfold m_ref9_all_B2 at h
      refine k_seq ?_
      refine k_seq ?_
      refine k_reg .free hmixP (by kernel_rfl) ?_
      refine G_q rfl (op_move (av := .exact (.int .i64 x3_l2)) rfl ?_)
      refine G_q rfl (op_move (av := .row 1 c_api_Value a0) rfl ?_)
      refine G_q rfl (op_len_row (by kernel_rfl) rfl ?_)
      refine G_q rfl (op_lss rfl rfl ?_)
      refine G_nil ?_
      refine kC_normal ?_
      refine k_cond_d (p := x3_l2 < (List.length a0 : Int)) rfl (fun hc => ?_) (fun hc => ?_)
      · replace h := ite_t h hc
        refine k_skip ?_
        refine kC_normal ?_
        refine k_seq ?_
        refine k_block ?_
        refine k_seq ?_
        refine k_reg .free hmixP (by kernel_rfl) ?_
        refine G_q rfl (op_move (av := .row 1 c_api_Value a0) rfl ?_)
        refine G_q rfl (op_move (av := .exact (.int .i64 x3_l2)) rfl ?_)
        obtain ⟨n13, h⟩ := need_some h
        refine G_q rfl (op_index_row (by kernel_rfl) rfl rfl n13.1 n13.2 ?_)
        refine G_q rfl (op_load1p (a := .exact (.string (bs (gi a0 x3_l2)))) (by kernel_rfl) rfl rfl ?_)
        obtain ⟨y14, hy14, h⟩ := bnd1_some h
        refine G_q rfl (op_pure (m_ref9_Valid_ok _ _ hy14) Tryz.func74 (by kernel_rfl) (LEs.cons (AV.le_eq rfl) LEs.nil) ?_)
        refine G_q rfl (op_not rfl ?_)
        refine G_nil ?_
        refine kC_normal ?_
        refine k_cond_b (c := !y14) rfl (fun hc => ?_) (fun hc => ?_)
        · replace h := ite_t h hc
          refine k_seq ?_
          refine k_reg .free hmixP (by kernel_rfl) ?_
          refine G_q rfl (op_assign (av := .exact (.bool false)) rfl ?_)
          refine G_nil ?_
          refine kC_normal ?_
          refine k_ret ?_
          refine kB_ret ?_
          refine kC_ret ?_
          refine kI_ret ?_
          refine kB_ret ?_
          refine kI_ret ?_
          obtain rfl := Option.some.inj h
          refine kP_any (endN (af' := (AF.put AF0 (some 2) (.exact (.bool false)))) (σ' := []) _ rfl ?_ ⟨rfl, rfl⟩)
          exact Sub.of_le (AF.le_put (AV.le_eq rfl) (AF.le_top _))
        · replace h := ite_f h hc
          refine k_skip ?_
          refine kB_normal ?_
          refine kC_normal ?_
          refine k_reg .free hmixP (by kernel_rfl) ?_
          refine G_q rfl (op_move (av := .exact (.int .i64 x3_l2)) rfl ?_)
          refine G_q rfl (op_add rfl rfl rfl ?_)
          refine G_q rfl (op_assign (av := .exact (.int .i64 (i64 (x3_l2 + 1)))) rfl ?_)
          refine G_nil ?_
          refine kI_normal ⟨_, h, ?_⟩
          exact Sub.of_le (AF.le_put (AV.le_eq rfl) (AF.le_put (AV.le_eq rfl) (AF.le_top _)))
      · replace h := ite_f h hc
        refine k_exit ?_
        refine kC_exit ?_
        refine kI_exit ?_
        refine kB_exit ?_
        refine kI_normal ⟨h, ?_⟩
        exact Sub.of_le (AF.le_top _)
  · refine k_seq ?_
    refine k_reg .free hmixP (by kernel_rfl) ?_
    refine G_q rfl (op_assign (av := .exact (.bool true)) rfl ?_)
    refine G_nil ?_
    refine kC_normal ?_
    refine k_ret ?_
    obtain rfl := Option.some.inj h
    refine kP_any (endN (af' := (AF.put AF0 (some 2) (.exact (.bool true)))) (σ' := []) _ rfl ?_ ⟨rfl, rfl⟩)
    exact Sub.of_le (AF.le_put (AV.le_eq rfl) (AF.le_top _))
set_option maxHeartbeats 4000000 in
theorem m_ref9_checked_ok (a0 : List UInt8) (r : (List UInt8)) (h : m_ref9_checked a0 = some r) : Pure Tryz.prog 88 [(.exact (.string (bs a0)))] (.exact (.string (bs r))) := by
  unfold m_ref9_checked at h
  refine Pure.ofFun (fun_of_awp Tryz.func88 rfl Tryz.ntmps88 (by simp) rfl (res1 rfl) fun E hE => k_end ?_)
  refine k_seq ?_
  refine k_reg .free hmixP (by kernel_rfl) ?_
  refine G_q rfl (op_assign (av := .exact (.string (bs ([] : List UInt8)))) rfl ?_)
  refine G_nil ?_
  refine kC_normal ?_
  refine k_seq ?_
  refine k_seq ?_
  refine k_reg .free hmixP (by kernel_rfl) ?_
  refine G_q rfl (op_move (av := .exact (.string (bs a0))) rfl ?_)
  obtain ⟨y1, hy1, h⟩ := bnd1_some h
  refine G_q rfl (op_pure (m_ref9_Valid_ok _ _ hy1) Tryz.func74 (by kernel_rfl) (LEs.cons (AV.le_eq rfl) LEs.nil) ?_)
  refine G_nil ?_
  refine kC_normal ?_
  refine k_cond_b (c := y1) rfl (fun hc => ?_) (fun hc => ?_)
  · replace h := ite_t h hc
    refine k_seq ?_
    refine k_reg .free hmixP (by kernel_rfl) ?_
    refine G_q rfl (op_move (av := .exact (.string (bs a0))) rfl ?_)
    refine G_q rfl (op_assign (av := .exact (.string (bs a0))) rfl ?_)
    refine G_nil ?_
    refine kC_normal ?_
    refine k_ret ?_
    refine kC_ret ?_
    obtain rfl := Option.some.inj h
    refine kP_any (endN (af' := (AF.put AF0 (some 2) (.exact (.string (bs a0))))) (σ' := []) _ rfl ?_ ⟨rfl, rfl⟩)
    exact Sub.of_le (AF.le_put (AV.le_eq rfl) (AF.le_top _))
  · replace h := ite_f h hc
    refine k_skip ?_
    refine kC_normal ?_
    refine k_seq ?_
    refine k_reg .free hmixP (by kernel_rfl) ?_
    refine G_q rfl (op_assign (av := .exact (.string (bs ([] : List UInt8)))) rfl ?_)
    refine G_nil ?_
    refine kC_normal ?_
    refine k_ret ?_
    obtain rfl := Option.some.inj h
    refine kP_any (endN (af' := (AF.put AF0 (some 2) (.exact (.string (bs ([] : List UInt8)))))) (σ' := []) _ rfl ?_ ⟨rfl, rfl⟩)
    exact Sub.of_le (AF.le_put (AV.le_eq rfl) (AF.le_top _))
set_option maxHeartbeats 4000000 in
theorem m_ref9_compound_ok (a0 : Int) (a1 : List (List UInt8)) (r : (List UInt8)) (h : m_ref9_compound a0 a1 = some r) : Pure Tryz.prog 63 [(.exact (.int .i64 a0)), (.row 1 c_api_Value a1)] (.exact (.string (bs r))) := by
  unfold m_ref9_compound at h
  refine Pure.ofFun (fun_of_awp Tryz.func63 rfl Tryz.ntmps63 (by simp) rfl (res1 rfl) fun E hE => k_end ?_)
  refine k_seq ?_
  refine k_reg .free hmixP (by kernel_rfl) ?_
  refine G_q rfl (op_assign (av := .exact (.string (bs ([] : List UInt8)))) rfl ?_)
  refine G_nil ?_
  refine kC_normal ?_
  refine k_seq ?_
  refine k_seq ?_
  refine k_reg .free hmixP (by kernel_rfl) ?_
  refine G_q rfl (op_move (av := .row 1 c_api_Value a1) rfl ?_)
  refine G_q rfl (op_len_row (by kernel_rfl) rfl ?_)
  refine G_q rfl (op_gtr rfl rfl ?_)
  refine G_nil ?_
  refine kC_normal ?_
  refine k_cond_d (p := 65535 < (List.length a1 : Int)) rfl (fun hc => ?_) (fun hc => ?_)
  · replace h := ite_t h hc
    refine k_seq ?_
    refine k_reg .free hmixP (by kernel_rfl) ?_
    refine G_q rfl (op_assign (av := .exact (.string (bs ([] : List UInt8)))) rfl ?_)
    refine G_nil ?_
    refine kC_normal ?_
    refine k_ret ?_
    refine kC_ret ?_
    obtain rfl := Option.some.inj h
    refine kP_any (endN (af' := (AF.put AF0 (some 4) (.exact (.string (bs ([] : List UInt8)))))) (σ' := []) _ rfl ?_ ⟨rfl, rfl⟩)
    exact Sub.of_le (AF.le_put (AV.le_eq rfl) (AF.le_top _))
  · replace h := ite_f h hc
    refine k_skip ?_
    refine kC_normal ?_
    refine k_seq ?_
    refine k_plan [] [(0, 0), (0, 1), (0, 2), (0, 3), (0, 4), (0, 5), (0, 6), (0, 7), (0, 8)] hmixP (by kernel_rfl) ?_
    refine P_q no34_0 rfl (op_move (av := .exact (.int .i64 a0)) rfl ?_)
    refine P_q no34_0 rfl (op_convInt (k := .u8) (r := (UInt8.toNat (u8i a0) : Int)) (by kernel_rfl) rfl (u8i_eq _) ?_)
    refine P_q no34_0 rfl (op_litT (n := 1) (enc := c_uint8) [u8i a0] (CellsAll.cons rfl CellsOf.int CellsAll.nil) rfl (by kernel_rfl) (LEss.cons (LEs.cons (AV.le_eq rfl) LEs.nil) LEss.nil) ?_)
    refine P_q no34_0 rfl (op_bytesS rfl (by kernel_rfl) rfl ?_)
    refine P_q no34_0 rfl (op_move (av := .row 1 c_api_Value a1) rfl ?_)
    refine P_q no34_0 rfl (op_len_row (by kernel_rfl) rfl ?_)
    obtain ⟨y1, hy1, h⟩ := bnd1_some h
    refine P_q no34_0 rfl (op_pure (m_ref9_two_ok _ _ hy1) Tryz.func61 (by kernel_rfl) (LEs.cons (AV.le_eq rfl) LEs.nil) ?_)
    obtain ⟨n2, h⟩ := need_some h
    refine P_q no34_0 rfl (op_addS n2 rfl rfl ?_)
    refine P_q no34_0 rfl (op_assign (av := .exact (.string (bs ([u8i a0] ++ y1)))) rfl ?_)
    refine P_nil ?_
    refine kC_normal ?_
    refine k_join1_0 h (fun (x5_j3 : List UInt8) => (AF.put (AF.put AF0 (some 1) (.row 1 c_api_Value a1)) (some 5) (.exact (.string (bs x5_j3))))) (fun (x5_j3 : List UInt8) => []) (fun k3 h => ?_) (fun x5_j3 h => ?_)
    · refine k_seq ?_
      refine k_reg .free hmixP (by kernel_rfl) ?_
      refine G_q rfl (op_assign (av := .exact (.int .i64 0)) rfl ?_)
      refine G_nil ?_
      refine kC_normal ?_
      refine k_block ?_
      refine k_loop2_0 (m_ref9_compound_L2 a1 k3) (m_ref9_compound_B2 a1 k3) (fun _ _ => rfl) (fun m _ _ => rfl) h (fun (x5_l2 : List UInt8) (x6_l2 : Int) => (AF.put (AF.put (AF.put AF0 (some 1) (.row 1 c_api_Value a1)) (some 5) (.exact (.string (bs x5_l2)))) (some 6) (.exact (.int .i64 x6_l2)))) (fun (x5_l2 : List UInt8) (x6_l2 : Int) => []) ?_ (fun rec2 x5_l2 x6_l2 h => ?_)
      · exact Sub.of_le (AF.le_put (AV.le_eq rfl) (AF.le_put (AV.le_eq rfl) (AF.le_put (AV.le_eq rfl) (AF.le_top _))))
      · unfold m_ref9_compound_B2 at h
        refine k_seq ?_
        refine k_seq ?_
        refine k_reg .free hmixP (by kernel_rfl) ?_
        refine G_q rfl (op_move (av := .exact (.int .i64 x6_l2)) rfl ?_)
        refine G_q rfl (op_move (av := .row 1 c_api_Value a1) rfl ?_)
        refine G_q rfl (op_len_row (by kernel_rfl) rfl ?_)
        refine G_q rfl (op_lss rfl rfl ?_)
        refine G_nil ?_
        refine kC_normal ?_
        refine k_cond_d (p := x6_l2 < (List.length a1 : Int)) rfl (fun hc => ?_) (fun hc => ?_)
        · replace h := ite_t h hc
          refine k_skip ?_
          refine kC_normal ?_
          refine k_seq ?_
          refine k_block ?_
          refine k_seq ?_
          refine k_join1_0 h (fun (x36_j114 : Bool) => (AF.put (AF.put (AF.put (AF.put AF0 (some 1) (.row 1 c_api_Value a1)) (some 5) (.exact (.string (bs x5_l2)))) (some 6) (.exact (.int .i64 x6_l2))) (some 36) (.exact (.bool x36_j114)))) (fun (x36_j114 : Bool) => []) (fun k114 h => ?_) (fun x36_j114 h => ?_)
          · refine k_reg .free hmixP (by kernel_rfl) ?_
            refine G_q rfl (op_move (av := .row 1 c_api_Value a1) rfl ?_)
            refine G_q rfl (op_move (av := .exact (.int .i64 x6_l2)) rfl ?_)
            obtain ⟨n116, h⟩ := need_some h
            refine G_q rfl (op_index_row (by kernel_rfl) rfl rfl n116.1 n116.2 ?_)
            refine G_q rfl (op_load1p (a := .exact (.string (bs (gi a1 x6_l2)))) (by kernel_rfl) rfl rfl ?_)
            refine G_q rfl (op_eqlS rfl rfl ?_)
            refine G_q rfl (op_move (av := .exact (.bool (decide ((gi a1 x6_l2) = ([] : List UInt8))))) rfl ?_)
            refine G_split (p := (gi a1 x6_l2) = ([] : List UInt8)) 32 rfl (fun hc => ?_) (fun hc => ?_)
            · replace h := ite_t h hc
              refine G_n rfl rfl ?_
              refine G_n rfl rfl ?_
              refine G_n rfl rfl ?_
              refine G_q rfl (op_pick_t rfl (av := .exact (.bool true)) rfl ?_)
              refine G_nil ?_
              refine kI_normal ⟨_, h, ?_⟩
              exact Sub.of_le (AF.le_put (AV.le_eq rfl) (AF.le_put (AV.le_eq rfl) (AF.le_put (AV.le_eq rfl) (AF.le_put (AV.le_eq rfl) (AF.le_top _)))))
            · replace h := ite_f h hc
              refine Gy_q rfl rfl rfl (op_move (av := .exact (.string (bs x5_l2))) rfl ?_)
              refine Gy_q rfl rfl rfl (op_lenS (by kernel_rfl) rfl ?_)
              refine Gy_q rfl rfl rfl (op_gtr rfl rfl ?_)
              refine G_q rfl (op_pick_f rfl (av := .exact (.bool (decide (131072 < (List.length x5_l2 : Int))))) rfl ?_)
              refine G_nil ?_
              refine kI_normal ⟨_, h, ?_⟩
              exact Sub.of_le (AF.le_put (AV.le_eq rfl) (AF.le_put (AV.le_eq rfl) (AF.le_put (AV.le_eq rfl) (AF.le_put (AV.le_eq rfl) (AF.le_top _)))))
          · refine k_cond_b (c := x36_j114) rfl (fun hc => ?_) (fun hc => ?_)
            · replace h := ite_t h hc
              refine k_seq ?_
              refine k_reg .free hmixP (by kernel_rfl) ?_
              refine G_q rfl (op_assign (av := .exact (.string (bs ([] : List UInt8)))) rfl ?_)
              refine G_nil ?_
              refine kC_normal ?_
              refine k_ret ?_
              refine kC_ret ?_
              refine kB_ret ?_
              refine kC_ret ?_
              refine kI_ret ?_
              refine kB_ret ?_
              refine kI_ret ?_
              obtain rfl := Option.some.inj h
              refine kP_any (endN (af' := (AF.put AF0 (some 4) (.exact (.string (bs ([] : List UInt8)))))) (σ' := []) _ rfl ?_ ⟨rfl, rfl⟩)
              exact Sub.of_le (AF.le_put (AV.le_eq rfl) (AF.le_top _))
            · replace h := ite_f h hc
              refine k_skip ?_
              refine kC_normal ?_
              refine k_reg .free hmixP (by kernel_rfl) ?_
              refine G_q rfl (op_move (av := .exact (.string (bs x5_l2))) rfl ?_)
              refine G_q rfl (op_move (av := .row 1 c_api_Value a1) rfl ?_)
              refine G_q rfl (op_move (av := .exact (.int .i64 x6_l2)) rfl ?_)
              obtain ⟨n117, h⟩ := need_some h
              refine G_q rfl (op_index_row (by kernel_rfl) rfl rfl n117.1 n117.2 ?_)
              refine G_q rfl (op_load1p (a := .exact (.string (bs (gi a1 x6_l2)))) (by kernel_rfl) rfl rfl ?_)
              obtain ⟨n118, h⟩ := need_some h
              refine G_q rfl (op_addS n118 rfl rfl ?_)
              refine G_q rfl (op_assign (av := .exact (.string (bs (x5_l2 ++ (gi a1 x6_l2))))) rfl ?_)
              refine G_nil ?_
              refine kB_normal ?_
              refine kC_normal ?_
              refine k_reg .free hmixP (by kernel_rfl) ?_
              refine G_q rfl (op_move (av := .exact (.int .i64 x6_l2)) rfl ?_)
              refine G_q rfl (op_add rfl rfl rfl ?_)
              refine G_q rfl (op_assign (av := .exact (.int .i64 (i64 (x6_l2 + 1)))) rfl ?_)
              refine G_nil ?_
              refine kI_normal ⟨_, _, h, ?_⟩
              exact Sub.of_le (AF.le_put (AV.le_eq rfl) (AF.le_put (AV.le_eq rfl) (AF.le_put (AV.le_eq rfl) (AF.le_top _))))
        · replace h := ite_f h hc
          refine k_exit ?_
          refine kC_exit ?_
          refine kI_exit ?_
          refine kB_exit ?_
          refine kI_normal ⟨_, h, ?_⟩
          exact Sub.of_le (AF.le_put (AV.le_eq rfl) (AF.le_put (AV.le_eq rfl) (AF.le_top _)))
    · refine k_seq ?_
      refine k_seq ?_
      refine k_reg .free hmixP (by kernel_rfl) ?_
      refine G_q rfl (op_move (av := .exact (.string (bs x5_j3))) rfl ?_)
      obtain ⟨y122, hy122, h⟩ := bnd1_some h
      refine G_q rfl (op_pure (m_ref9_read_ok _ _ _ hy122) Tryz.func87 (by kernel_rfl) (LEs.cons (AV.le_eq rfl) (LEs.cons (AV.le_eq rfl) LEs.nil)) ?_)
      refine G_q rfl (op_move (av := .tup [.exact (.int .i64 y122.1), .row 1 c_api_Value y122.2.1, .exact (.int .i64 y122.2.2)]) rfl ?_)
      refine G_q rfl (op_extract (av := .exact (.int .i64 y122.1)) rfl rfl ?_)
      refine G_q rfl (op_extract (av := .row 1 c_api_Value y122.2.1) rfl rfl ?_)
      refine G_q rfl (op_extract (av := .exact (.int .i64 y122.2.2)) rfl rfl ?_)
      refine G_q rfl (op_assign (av := .exact (.int .i64 y122.1)) rfl ?_)
      refine G_q rfl (op_assign (av := .row 1 c_api_Value y122.2.1) rfl ?_)
      refine G_q rfl (op_assign (av := .exact (.int .i64 y122.2.2)) rfl ?_)
      refine G_nil ?_
      refine kC_normal ?_
      refine k_join1_0 h (fun (x59_j123 : Bool) => (AF.put (AF.put AF0 (some 5) (.exact (.string (bs x5_j3)))) (some 59) (.exact (.bool x59_j123)))) (fun (x59_j123 : Bool) => []) (fun k123 h => ?_) (fun x59_j123 h => ?_)
      · refine k_reg .free hmixP (by kernel_rfl) ?_
        refine G_q rfl (op_move (av := .exact (.int .i64 y122.1)) rfl ?_)
        refine G_q rfl (op_move (av := .exact (.string (bs x5_j3))) rfl ?_)
        refine G_q rfl (op_lenS (by kernel_rfl) rfl ?_)
        refine G_q rfl (op_neq rfl rfl ?_)
        refine G_q rfl (op_move (av := .exact (.bool (decide (¬ y122.1 = (List.length x5_j3 : Int))))) rfl ?_)
        refine G_split (p := ¬ y122.1 = (List.length x5_j3 : Int)) 53 rfl (fun hc => ?_) (fun hc => ?_)
        · replace h := ite_t h hc
          refine G_n rfl rfl ?_
          refine G_n rfl rfl ?_
          refine G_n rfl rfl ?_
          refine G_n rfl rfl ?_
          refine G_n rfl rfl ?_
          refine G_q rfl (op_pick_t rfl (av := .exact (.bool true)) rfl ?_)
          refine G_nil ?_
          refine kI_normal ⟨_, h, ?_⟩
          exact Sub.of_le (AF.le_put (AV.le_eq rfl) (AF.le_put (AV.le_eq rfl) (AF.le_top _)))
        · replace h := ite_f h hc
          refine Gy_q rfl rfl rfl (op_move (av := .row 1 c_api_Value y122.2.1) rfl ?_)
          refine Gy_q rfl rfl rfl (op_len_row (by kernel_rfl) rfl ?_)
          refine Gy_q rfl rfl rfl (op_move (av := .row 1 c_api_Value a1) rfl ?_)
          refine Gy_q rfl rfl rfl (op_len_row (by kernel_rfl) rfl ?_)
          refine Gy_q rfl rfl rfl (op_neq rfl rfl ?_)
          refine G_q rfl (op_pick_f rfl (av := .exact (.bool (decide (¬ (List.length y122.2.1 : Int) = (List.length a1 : Int))))) rfl ?_)
          refine G_nil ?_
          refine kI_normal ⟨_, h, ?_⟩
          exact Sub.of_le (AF.le_put (AV.le_eq rfl) (AF.le_put (AV.le_eq rfl) (AF.le_top _)))
      · refine k_cond_b (c := x59_j123) rfl (fun hc => ?_) (fun hc => ?_)
        · replace h := ite_t h hc
          refine k_seq ?_
          refine k_reg .free hmixP (by kernel_rfl) ?_
          refine G_q rfl (op_assign (av := .exact (.string (bs ([] : List UInt8)))) rfl ?_)
          refine G_nil ?_
          refine kC_normal ?_
          refine k_ret ?_
          refine kC_ret ?_
          obtain rfl := Option.some.inj h
          refine kP_any (endN (af' := (AF.put AF0 (some 4) (.exact (.string (bs ([] : List UInt8)))))) (σ' := []) _ rfl ?_ ⟨rfl, rfl⟩)
          exact Sub.of_le (AF.le_put (AV.le_eq rfl) (AF.le_top _))
        · replace h := ite_f h hc
          refine k_skip ?_
          refine kC_normal ?_
          refine k_seq ?_
          refine k_reg .free hmixP (by kernel_rfl) ?_
          refine G_q rfl (op_move (av := .exact (.string (bs x5_j3))) rfl ?_)
          obtain ⟨y124, hy124, h⟩ := bnd1_some h
          refine G_q rfl (op_pure (m_ref9_checked_ok _ _ hy124) Tryz.func88 (by kernel_rfl) (LEs.cons (AV.le_eq rfl) LEs.nil) ?_)
          refine G_q rfl (op_assign (av := .exact (.string (bs y124))) rfl ?_)
          refine G_nil ?_
          refine kC_normal ?_
          refine k_ret ?_
          obtain rfl := Option.some.inj h
          refine kP_any (endN (af' := (AF.put AF0 (some 4) (.exact (.string (bs y124))))) (σ' := []) _ rfl ?_ ⟨rfl, rfl⟩)
          exact Sub.of_le (AF.le_put (AV.le_eq rfl) (AF.le_top _))
set_option maxHeartbeats 4000000 in
theorem m_ref9_Make_ok (a0 : Int) (a1 : List (List UInt8)) (r : (List UInt8)) (h : m_ref9_Make a0 a1 = some r) : Pure Tryz.prog 33 [(.exact (.int .i64 a0)), (.row 1 c_api_Value a1)] (.exact (.string (bs r))) := by
  unfold m_ref9_Make at h
  refine Pure.ofFun (fun_of_awp Tryz.func33 rfl Tryz.ntmps33 (by simp) rfl (res1 rfl) fun E hE => k_end ?_)
  refine k_seq ?_
  refine k_reg .free hmixP (by kernel_rfl) ?_
  refine G_q rfl (op_assign (av := .exact (.string (bs ([] : List UInt8)))) rfl ?_)
  refine G_nil ?_
  refine kC_normal ?_
  refine k_seq ?_
  refine k_seq ?_
  refine k_reg .free hmixP (by kernel_rfl) ?_
  refine G_q rfl (op_move (av := .row 1 c_api_Value a1) rfl ?_)
  obtain ⟨y1, hy1, h⟩ := bnd1_some h
  refine G_q rfl (op_pure (m_ref9_all_ok _ _ hy1) Tryz.func62 (by kernel_rfl) (LEs.cons (AV.le_eq rfl) LEs.nil) ?_)
  refine G_q rfl (op_not rfl ?_)
  refine G_nil ?_
  refine kC_normal ?_
  refine k_cond_b (c := !y1) rfl (fun hc => ?_) (fun hc => ?_)
  · replace h := ite_t h hc
    refine k_seq ?_
    refine k_reg .free hmixP (by kernel_rfl) ?_
    refine G_q rfl (op_assign (av := .exact (.string (bs ([] : List UInt8)))) rfl ?_)
    refine G_nil ?_
    refine kC_normal ?_
    refine k_ret ?_
    refine kC_ret ?_
    obtain rfl := Option.some.inj h
    refine kP_any (endN (af' := (AF.put AF0 (some 4) (.exact (.string (bs ([] : List UInt8)))))) (σ' := []) _ rfl ?_ ⟨rfl, rfl⟩)
    exact Sub.of_le (AF.le_put (AV.le_eq rfl) (AF.le_top _))
  · replace h := ite_f h hc
    refine k_skip ?_
    refine kC_normal ?_
    refine k_seq ?_
    refine k_reg .free hmixP (by kernel_rfl) ?_
    refine G_q rfl (op_move (av := .exact (.int .i64 a0)) rfl ?_)
    refine G_q rfl (op_move (av := .row 1 c_api_Value a1) rfl ?_)
    obtain ⟨y2, hy2, h⟩ := bnd1_some h
    refine G_q rfl (op_pure (m_ref9_compound_ok _ _ _ hy2) Tryz.func63 (by kernel_rfl) (LEs.cons (AV.le_eq rfl) (LEs.cons (AV.le_eq rfl) LEs.nil)) ?_)
    refine G_q rfl (op_assign (av := .exact (.string (bs y2))) rfl ?_)
    refine G_nil ?_
    refine kC_normal ?_
    refine k_ret ?_
    obtain rfl := Option.some.inj h
    refine kP_any (endN (af' := (AF.put AF0 (some 4) (.exact (.string (bs y2))))) (σ' := []) _ rfl ?_ ⟨rfl, rfl⟩)
    exact Sub.of_le (AF.le_put (AV.le_eq rfl) (AF.le_top _))
set_option maxHeartbeats 4000000 in
theorem m_gen_Choices_Values_ok {w0 : Nat} (self_gen_Choices_Value : ((List Int) × Int) → Int → Option ((List UInt8) × ((List Int) × Int))) (hself_gen_Choices_Value : ∀ ⦃w0 : Nat⦄ (a0 : (List Int) × Int) (a1 : Int) (r : (List UInt8) × ((List Int) × Int)), self_gen_Choices_Value a0 a1 = some r → Fun Tryz.prog 9 [(pA w0 0), (.exact (.int .i64 a1))] [boxI 53 w0 [.row 1 c_int a0.1, .exact (.int .i64 a0.2)]] (fun a s => a = .exact (.string (bs r.1)) ∧ s = [boxI 53 w0 [.row 1 c_int r.2.1, .exact (.int .i64 r.2.2)]])) (a0 : (List Int) × Int) (a1 : Int) (a2 : Int) (r : (List (List UInt8)) × ((List Int) × Int)) (h : m_gen_Choices_Values self_gen_Choices_Value a0 a1 a2 = some r) : Fun Tryz.prog 14 [(pA w0 0), (.exact (.int .i64 a1)), (.exact (.int .i64 a2))] [boxI 53 w0 [.row 1 c_int a0.1, .exact (.int .i64 a0.2)]] (fun a s => a = .row 1 c_api_Value r.1 ∧ s = [boxI 53 w0 [.row 1 c_int r.2.1, .exact (.int .i64 r.2.2)]]) := by
  unfold m_gen_Choices_Values at h
  refine fun_of_awp Tryz.func14 rfl Tryz.ntmps14 (by simp) rfl (res1 rfl) fun E hE => k_end ?_
  refine k_seq ?_
  refine k_reg .free hmixP (by kernel_rfl) ?_
  refine G_q rfl (op_assign (av := .exact (.slice none 0 0)) rfl ?_)
  refine G_nil ?_
  refine kC_normal ?_
  refine k_seq ?_
  refine k_reg .free hmixP (by kernel_rfl) ?_
  refine G_q rfl (op_assign (av := .exact (.slice none 0 0)) rfl ?_)
  refine G_nil ?_
  refine kC_normal ?_
  refine k_join3_1 h (fun (x0_0_j1 : List Int) (x0_1_j1 : Int) (x7_j1 : List (List UInt8)) (v7_j1 : Value) => (AF.put (AF.put AF0 (some 0) (pA w0 0)) (some 7) (.exact v7_j1))) (fun (x0_0_j1 : List Int) (x0_1_j1 : Int) (x7_j1 : List (List UInt8)) (v7_j1 : Value) => [boxI 53 w0 [.row 1 c_int x0_0_j1, .exact (.int .i64 x0_1_j1)], vecT Tryz.prog 27 1 c_api_Value v7_j1 x7_j1]) (fun k1 h => ?_) (fun x0_0_j1 x0_1_j1 x7_j1 v7_j1 h => ?_)
  · refine k_seq ?_
    refine k_reg .free hmixP (by kernel_rfl) ?_
    refine G_q rfl (op_move (av := pA w0 0) rfl ?_)
    refine G_q rfl (op_move (av := .exact (.int .i64 a2)) rfl ?_)
    obtain ⟨y13, hy13, h⟩ := bnd1_some h
    refine G_l rfl (op_fun_1_0_1 (m_gen_Choices_Next_ok _ _ _ hy13) Tryz.func15 (by kernel_rfl) (LEs.cons (AV.le_eq rfl) (LEs.cons (AV.le_eq rfl) LEs.nil)) ?_)
    refine G_q rfl (op_assign (av := .exact (.int .i64 y13.1)) rfl ?_)
    refine G_nil ?_
    refine kC_normal ?_
    refine k_block ?_
    refine k_loop4_1 (m_gen_Choices_Values_L2 self_gen_Choices_Value a1 k1) (m_gen_Choices_Values_B2 self_gen_Choices_Value a1 k1) (fun _ _ _ _ => rfl) (fun m _ _ _ _ => rfl) h (fun (x0_0_l2 : List Int) (x0_1_l2 : Int) (x7_l2 : List (List UInt8)) (x8_l2 : Int) (v7_l2 : Value) => (AF.put (AF.put (AF.put (AF.put AF0 (some 0) (pA w0 0)) (some 1) (.exact (.int .i64 a1))) (some 7) (.exact v7_l2)) (some 8) (.exact (.int .i64 x8_l2)))) (fun (x0_0_l2 : List Int) (x0_1_l2 : Int) (x7_l2 : List (List UInt8)) (x8_l2 : Int) (v7_l2 : Value) => [boxI 53 w0 [.row 1 c_int x0_0_l2, .exact (.int .i64 x0_1_l2)], vecT Tryz.prog 27 1 c_api_Value v7_l2 x7_l2]) (.slice none 0 0) ?_ (fun rec2 x0_0_l2 x0_1_l2 x7_l2 x8_l2 v7_l2 h => ?_)
    · refine Sub.trans (SubU.to (SubU.nilT (P := Tryz.prog) (t := 27) (n := 1) (enc := c_api_Value))) ?_
      refine Sub.trans (SubU.to SubU.f1) ?_
      exact Sub.of_le (AF.le_put (AV.le_eq rfl) (AF.le_put (AV.le_eq rfl) (AF.le_put (AV.le_eq rfl) (AF.le_put (AV.le_eq rfl) (AF.le_top _)))))
    · unfold m_gen_Choices_Values_B2 at h
      refine k_seq ?_
      refine k_seq ?_
      refine k_reg .free hmixP (by kernel_rfl) ?_
      refine G_q rfl (op_move (av := .exact (.int .i64 x8_l2)) rfl ?_)
      refine G_q rfl (op_gtr rfl rfl ?_)
      refine G_nil ?_
      refine kC_normal ?_
      refine k_cond_d (p := 0 < x8_l2) rfl (fun hc => ?_) (fun hc => ?_)
      · replace h := ite_t h hc
        refine k_skip ?_
        refine kC_normal ?_
        refine k_seq ?_
        refine k_block ?_
        refine k_reg .free hmixP (by kernel_rfl) ?_
        refine G_q rfl (op_move (av := .exact v7_l2) rfl ?_)
        refine G_q rfl (op_move (av := pA w0 0) rfl ?_)
        refine G_q rfl (op_move (av := .exact (.int .i64 a1)) rfl ?_)
        obtain ⟨y20, hy20, h⟩ := bnd1_some h
        refine G_l rfl (op_fun_1_0_1 (hself_gen_Choices_Value _ _ _ hy20) Tryz.func9 (by kernel_rfl) (LEs.cons (AV.le_eq rfl) (LEs.cons (AV.le_eq rfl) LEs.nil)) ?_)
        refine G_q rfl (op_litT (n := 1) (enc := c_api_Value) [y20.1] (CellsAll.cons rfl CellsOf.str CellsAll.nil) rfl (by kernel_rfl) (LEss.cons (LEs.cons (AV.le_eq rfl) LEs.nil) LEss.nil) ?_)
        obtain ⟨n21, h⟩ := need_some h
        refine G_l rfl (opB_f1 (op_appT (by kernel_rfl) rfl rfl oc_c_api_Value n21 (fun v22 => ?_)))
        refine G_q rfl (op_assign (av := .exact v22) rfl ?_)
        refine G_nil ?_
        refine kB_normal ?_
        refine kC_normal ?_
        refine k_reg .free hmixP (by kernel_rfl) ?_
        refine G_q rfl (op_move (av := .exact (.int .i64 x8_l2)) rfl ?_)
        refine G_q rfl (op_sub rfl rfl rfl ?_)
        refine G_q rfl (op_assign (av := .exact (.int .i64 (i64 (x8_l2 - 1)))) rfl ?_)
        refine G_nil ?_
        refine kI_normal ⟨_, _, _, _, v22, h, ?_⟩
        refine Sub.trans (SubU.to SubU.f1) ?_
        exact Sub.of_le (AF.le_put (AV.le_eq rfl) (AF.le_put (AV.le_eq rfl) (AF.le_put (AV.le_eq rfl) (AF.le_put (AV.le_eq rfl) (AF.le_top _)))))
      · replace h := ite_f h hc
        refine k_exit ?_
        refine kC_exit ?_
        refine kI_exit ?_
        refine kB_exit ?_
        refine kI_normal ⟨_, _, _, v7_l2, h, ?_⟩
        exact Sub.of_le (AF.le_put (AV.le_eq rfl) (AF.le_put (AV.le_eq rfl) (AF.le_top _)))
  · refine k_seq ?_
    refine k_reg .free hmixP (by kernel_rfl) ?_
    refine G_q rfl (op_move (av := .exact v7_j1) rfl ?_)
    refine G_q rfl (op_assign (av := .exact v7_j1) rfl ?_)
    refine G_nil ?_
    refine kC_normal ?_
    refine k_ret ?_
    obtain rfl := Option.some.inj h
    refine kP_any (endN (af' := (AF.put AF0 (some 6) (.row 1 c_api_Value x7_j1))) (σ' := [boxI 53 w0 [.row 1 c_int x0_0_j1, .exact (.int .i64 x0_1_j1)]]) _ rfl ?_ ⟨rfl, rfl⟩)
    refine Sub.trans (SubU.to SubU.f1) ?_
    refine Sub.trans (SubU.to (SubU.freezeT (s := 6) rfl len_c_api_Value)) ?_
    exact Sub.of_le (AF.le_put (AV.le_eq rfl) (AF.le_top _))
set_option maxHeartbeats 4000000 in
theorem m_ref9_Compare_ok (a0 : List UInt8) (a1 : List UInt8) (r : Int) (h : m_ref9_Compare a0 a1 = some r) : Pure Tryz.prog 56 [(.exact (.string (bs a0))), (.exact (.string (bs a1)))] (.exact (.int .i64 r)) := by
  unfold m_ref9_Compare at h
  refine Pure.ofFun (fun_of_awp Tryz.func56 rfl Tryz.ntmps56 (by simp) rfl (res1 rfl) fun E hE => k_end ?_)
  refine k_seq ?_
  refine k_reg .free hmixP (by kernel_rfl) ?_
  refine G_q rfl (op_assign (av := .exact (.int .i64 0)) rfl ?_)
  refine G_nil ?_
  refine kC_normal ?_
  refine k_seq ?_
  refine k_reg .free hmixP (by kernel_rfl) ?_
  refine G_q rfl (op_move (av := .exact (.string (bs a0))) rfl ?_)
  obtain ⟨y1, hy1, h⟩ := bnd1_some h
  refine G_q rfl (op_pure (m_ref9_Valid_ok _ _ hy1) Tryz.func74 (by kernel_rfl) (LEs.cons (AV.le_eq rfl) LEs.nil) ?_)
  refine G_q rfl (op_move (av := .exact (.string (bs a1))) rfl ?_)
  obtain ⟨y2, hy2, h⟩ := bnd1_some h
  refine G_q rfl (op_pure (m_ref9_Valid_ok _ _ hy2) Tryz.func74 (by kernel_rfl) (LEs.cons (AV.le_eq rfl) LEs.nil) ?_)
  refine G_q rfl (op_assign (av := .exact (.bool y1)) rfl ?_)
  refine G_q rfl (op_assign (av := .exact (.bool y2)) rfl ?_)
  refine G_nil ?_
  refine kC_normal ?_
  refine k_seq ?_
  refine k_block ?_
  refine k_join1_0 h (fun (x11_j7 : Bool) => (AF.put (AF.put (AF.put (AF.put (AF.put AF0 (some 0) (.exact (.string (bs a0)))) (some 1) (.exact (.string (bs a1)))) (some 5) (.exact (.bool y1))) (some 6) (.exact (.bool y2))) (some 11) (.exact (.bool x11_j7)))) (fun (x11_j7 : Bool) => []) (fun k7 h => ?_) (fun x11_j7 h => ?_)
  · refine k_reg .free hmixP (by kernel_rfl) ?_
    refine G_q rfl (op_move (av := .exact (.bool y1)) rfl ?_)
    refine G_q rfl (op_move (av := .exact (.bool y1)) rfl ?_)
    refine G_splitB (c := y1) 13 rfl (fun hc => ?_) (fun hc => ?_)
    · replace h := ite_t h hc
      refine Gy_q rfl rfl rfl (op_move (av := .exact (.bool y2)) rfl ?_)
      refine G_q rfl (op_pick_t rfl (av := .exact (.bool y2)) rfl ?_)
      refine G_q rfl (op_assign (av := .exact (.bool y2)) rfl ?_)
      refine G_nil ?_
      refine kI_normal ⟨_, h, ?_⟩
      exact Sub.of_le (AF.le_put (AV.le_eq rfl) (AF.le_put (AV.le_eq rfl) (AF.le_put (AV.le_eq rfl) (AF.le_put (AV.le_eq rfl) (AF.le_put (AV.le_eq rfl) (AF.le_top _))))))
    · replace h := ite_f h hc
      refine G_n rfl rfl ?_
      refine G_q rfl (op_pick_f rfl (av := .exact (.bool false)) rfl ?_)
      refine G_q rfl (op_assign (av := .exact (.bool false)) rfl ?_)
      refine G_nil ?_
      refine kI_normal ⟨_, h, ?_⟩
      exact Sub.of_le (AF.le_put (AV.le_eq rfl) (AF.le_put (AV.le_eq rfl) (AF.le_put (AV.le_eq rfl) (AF.le_put (AV.le_eq rfl) (AF.le_put (AV.le_eq rfl) (AF.le_top _))))))
  · refine k_cond_b (c := x11_j7) rfl (fun hc => ?_) (fun hc => ?_)
    · replace h := ite_t h hc
      refine k_seq ?_
      refine k_reg .free hmixP (by kernel_rfl) ?_
      refine G_q rfl (op_move (av := .exact (.string (bs a0))) rfl ?_)
      refine G_q rfl (op_move (av := .exact (.string (bs a1))) rfl ?_)
      obtain ⟨y8, hy8, h⟩ := bnd1_some h
      refine G_q rfl (op_pure (m_ref9_order_ok _ _ _ hy8) Tryz.func85 (by kernel_rfl) (LEs.cons (AV.le_eq rfl) (LEs.cons (AV.le_eq rfl) LEs.nil)) ?_)
      refine G_q rfl (op_assign (av := .exact (.int .i64 y8)) rfl ?_)
      refine G_nil ?_
      refine kC_normal ?_
      refine k_ret ?_
      refine kB_ret ?_
      refine kC_ret ?_
      obtain rfl := Option.some.inj h
      refine kP_any (endN (af' := (AF.put AF0 (some 4) (.exact (.int .i64 y8)))) (σ' := []) _ rfl ?_ ⟨rfl, rfl⟩)
      exact Sub.of_le (AF.le_put (AV.le_eq rfl) (AF.le_top _))
    · replace h := ite_f h hc
      refine k_seq ?_
      refine k_reg .free hmixP (by kernel_rfl) ?_
      refine G_q rfl (op_move (av := .exact (.bool y1)) rfl ?_)
      refine G_q rfl (op_move (av := .exact (.bool y2)) rfl ?_)
      refine G_q rfl (op_neqB (a := y1) (b := y2) (by kernel_rfl) rfl rfl ?_)
      refine G_q rfl (op_assign (av := .exact (.bool (decide (¬ y1 = y2)))) rfl ?_)
      refine G_nil ?_
      refine kC_normal ?_
      refine k_cond_d (p := ¬ y1 = y2) rfl (fun hc => ?_) (fun hc => ?_)
      · replace h := ite_t h hc
        refine k_seq ?_
        refine k_reg .free hmixP (by kernel_rfl) ?_
        refine G_q rfl (op_move (av := .exact (.bool y2)) rfl ?_)
        refine G_q rfl (op_move (av := .exact (.bool y1)) rfl ?_)
        obtain ⟨y9, hy9, h⟩ := bnd1_some h
        refine G_q rfl (op_pure (m_ref9_sign_ok _ _ _ hy9) Tryz.func86 (by kernel_rfl) (LEs.cons (AV.le_eq rfl) (LEs.cons (AV.le_eq rfl) LEs.nil)) ?_)
        refine G_q rfl (op_assign (av := .exact (.int .i64 y9)) rfl ?_)
        refine G_nil ?_
        refine kC_normal ?_
        refine k_ret ?_
        refine kB_ret ?_
        refine kC_ret ?_
        obtain rfl := Option.some.inj h
        refine kP_any (endN (af' := (AF.put AF0 (some 4) (.exact (.int .i64 y9)))) (σ' := []) _ rfl ?_ ⟨rfl, rfl⟩)
        exact Sub.of_le (AF.le_put (AV.le_eq rfl) (AF.le_top _))
      · replace h := ite_f h hc
        refine k_skip ?_
        refine kB_normal ?_
        refine kC_normal ?_
        refine k_seq ?_
        refine k_reg .free hmixP (by kernel_rfl) ?_
        refine G_q rfl (op_move (av := .exact (.string (bs a0))) rfl ?_)
        refine G_q rfl (op_move (av := .exact (.string (bs a1))) rfl ?_)
        refine G_q rfl (op_lssS rfl rfl ?_)
        refine G_q rfl (op_move (av := .exact (.string (bs a0))) rfl ?_)
        refine G_q rfl (op_move (av := .exact (.string (bs a1))) rfl ?_)
        refine G_q rfl (op_gtrS rfl rfl ?_)
        obtain ⟨y10, hy10, h⟩ := bnd1_some h
        refine G_q rfl (op_pure (m_ref9_sign_ok _ _ _ hy10) Tryz.func86 (by kernel_rfl) (LEs.cons (AV.le_eq rfl) (LEs.cons (AV.le_eq rfl) LEs.nil)) ?_)
        refine G_q rfl (op_assign (av := .exact (.int .i64 y10)) rfl ?_)
        refine G_nil ?_
        refine kC_normal ?_
        refine k_ret ?_
        obtain rfl := Option.some.inj h
        refine kP_any (endN (af' := (AF.put AF0 (some 4) (.exact (.int .i64 y10)))) (σ' := []) _ rfl ?_ ⟨rfl, rfl⟩)
        exact Sub.of_le (AF.le_put (AV.le_eq rfl) (AF.le_top _))
set_option maxHeartbeats 4000000 in
theorem m_ref9_Sort_ok (a0 : List (List UInt8)) (r : (List (List UInt8))) (h : m_ref9_Sort a0 = some r) : Pure Tryz.prog 24 [(.row 1 c_api_Value a0)] (.row 1 c_api_Value r) := by
  unfold m_ref9_Sort at h
  refine Pure.ofFun (fun_of_awp Tryz.func24 rfl Tryz.ntmps24 (by simp) rfl (res1 rfl) fun E hE => k_end ?_)
  refine k_seq ?_
  refine k_reg .free hmixP (by kernel_rfl) ?_
  refine G_q rfl (op_assign (av := .exact (.slice none 0 0)) rfl ?_)
  refine G_nil ?_
  refine kC_normal ?_
  refine k_seq ?_
  refine k_reg .free hmixP (by kernel_rfl) ?_
  refine G_q rfl (op_assign (av := .exact (.slice none 0 0)) rfl ?_)
  refine G_nil ?_
  refine kC_normal ?_
  refine k_join1_1 h (fun (x3_j1 : List (List UInt8)) (v3_j1 : Value) => (AF.put AF0 (some 3) (.exact v3_j1))) (fun (x3_j1 : List (List UInt8)) (v3_j1 : Value) => [vecT Tryz.prog 27 1 c_api_Value v3_j1 x3_j1]) (fun k1 h => ?_) (fun x3_j1 v3_j1 h => ?_)
  · refine k_seq ?_
    refine k_reg .free hmixP (by kernel_rfl) ?_
    refine G_q rfl (op_assign (av := .exact (.int .i64 0)) rfl ?_)
    refine G_nil ?_
    refine kC_normal ?_
    refine k_block ?_
    refine k_loop2_1 (m_ref9_Sort_L14 a0 k1) (m_ref9_Sort_B14 a0 k1) (fun _ _ => rfl) (fun m _ _ => rfl) h (fun (x3_l14 : List (List UInt8)) (x4_l14 : Int) (v3_l14 : Value) => (AF.put (AF.put (AF.put AF0 (some 0) (.row 1 c_api_Value a0)) (some 3) (.exact v3_l14)) (some 4) (.exact (.int .i64 x4_l14)))) (fun (x3_l14 : List (List UInt8)) (x4_l14 : Int) (v3_l14 : Value) => [vecT Tryz.prog 27 1 c_api_Value v3_l14 x3_l14]) (.slice none 0 0) ?_ (fun rec14 x3_l14 x4_l14 v3_l14 h => ?_)
    · refine Sub.trans (SubU.to (SubU.nilT (P := Tryz.prog) (t := 27) (n := 1) (enc := c_api_Value))) ?_
      exact Sub.of_le (AF.le_put (AV.le_eq rfl) (AF.le_put (AV.le_eq rfl) (AF.le_put (AV.le_eq rfl) (AF.le_top _))))
    · unfold m_ref9_Sort_B14 at h
      refine k_seq ?_
      refine k_seq ?_
      refine k_reg .free hmixP (by kernel_rfl) ?_
      refine G_q rfl (op_move (av := .exact (.int .i64 x4_l14)) rfl ?_)
      refine G_q rfl (op_move (av := .row 1 c_api_Value a0) rfl ?_)
      refine G_q rfl (op_len_row (by kernel_rfl) rfl ?_)
      refine G_q rfl (op_lss rfl rfl ?_)
      refine G_nil ?_
      refine kC_normal ?_
      refine k_cond_d (p := x4_l14 < (List.length a0 : Int)) rfl (fun hc => ?_) (fun hc => ?_)
      · replace h := ite_t h hc
        refine k_skip ?_
        refine kC_normal ?_
        refine k_join1_1 h (fun (x3_j844 : List (List UInt8)) (v3_j844 : Value) => (AF.put (AF.put (AF.put AF0 (some 0) (.row 1 c_api_Value a0)) (some 3) (.exact v3_j844)) (some 4) (.exact (.int .i64 x4_l14)))) (fun (x3_j844 : List (List UInt8)) (v3_j844 : Value) => [vecT Tryz.prog 27 1 c_api_Value v3_j844 x3_j844]) (fun k844 h => ?_) (fun x3_j844 v3_j844 h => ?_)
        · refine k_block ?_
          refine k_seq ?_
          refine k_reg .free hmixP (by kernel_rfl) ?_
          refine G_q rfl (op_move (av := .exact v3_l14) rfl ?_)
          refine G_r rfl (op_len_vec (by kernel_rfl) rfl ?_)
          refine G_q rfl (op_assign (av := .exact (.int .i64 (List.length x3_l14 : Int))) rfl ?_)
          refine G_nil ?_
          refine kC_normal ?_
          refine k_join1_0 h (fun (x5_j955 : Int) => (AF.put (AF.put (AF.put (AF.put AF0 (some 0) (.row 1 c_api_Value a0)) (some 3) (.exact v3_l14)) (some 4) (.exact (.int .i64 x4_l14))) (some 5) (.exact (.int .i64 x5_j955)))) (fun (x5_j955 : Int) => [vecT Tryz.prog 27 1 c_api_Value v3_l14 x3_l14]) (fun k955 h => ?_) (fun x5_j955 h => ?_)
          · refine k_block ?_
            refine k_loop1_0 (m_ref9_Sort_L26 a0 x3_l14 x4_l14 k955) (m_ref9_Sort_B26 a0 x3_l14 x4_l14 k955) (fun _ => rfl) (fun m _ => rfl) h (fun (x5_l26 : Int) => (AF.put (AF.put (AF.put (AF.put AF0 (some 0) (.row 1 c_api_Value a0)) (some 3) (.exact v3_l14)) (some 4) (.exact (.int .i64 x4_l14))) (some 5) (.exact (.int .i64 x5_l26)))) (fun (x5_l26 : Int) => [vecT Tryz.prog 27 1 c_api_Value v3_l14 x3_l14]) ?_ (fun rec26 x5_l26 h => ?_)
            · exact Sub.of_le (AF.le_put (AV.le_eq rfl) (AF.le_put (AV.le_eq rfl) (AF.le_put (AV.le_eq rfl) (AF.le_put (AV.le_eq rfl) (AF.le_top _)))))
            · unfold m_ref9_Sort_B26 at h
              refine k_seq ?_
              refine k_join1_0 h (fun (x28_j1040 : Bool) => (AF.put (AF.put (AF.put (AF.put (AF.put AF0 (some 0) (.row 1 c_api_Value a0)) (some 3) (.exact v3_l14)) (some 4) (.exact (.int .i64 x4_l14))) (some 5) (.exact (.int .i64 x5_l26))) (some 28) (.exact (.bool x28_j1040)))) (fun (x28_j1040 : Bool) => [vecT Tryz.prog 27 1 c_api_Value v3_l14 x3_l14]) (fun k1040 h => ?_) (fun x28_j1040 h => ?_)
              · refine k_plan [] [(0, 0), (0, 1), (0, 2), (0, 3), (0, 4), (0, 5), (0, 8), (0, 9), (0, 10), (0, 11), (1, 6), (1, 7), (0, 12), (0, 13), (0, 14)] hmixP (by kernel_rfl) ?_
                refine P_q no34_0 rfl (op_move (av := .exact (.int .i64 x5_l26)) rfl ?_)
                refine P_q no34_0 rfl (op_gtr rfl rfl ?_)
                refine P_q no34_0 rfl (op_move (av := .exact (.bool (decide (0 < x5_l26)))) rfl ?_)
                refine P_split (p := 0 < x5_l26) 16 rfl (fun hc => ?_) (fun hc => ?_)
                · replace h := ite_t h hc
                  refine Py_q no34_0 rfl rfl rfl (op_move (av := .exact v3_l14) rfl ?_)
                  refine Py_q no34_0 rfl rfl rfl (op_move (av := .exact (.int .i64 x5_l26)) rfl ?_)
                  refine Py_q no34_0 rfl rfl rfl (op_sub rfl rfl rfl ?_)
                  refine Py_q no34_0 rfl rfl rfl (op_move (av := .row 1 c_api_Value a0) rfl ?_)
                  refine Py_q no34_0 rfl rfl rfl (op_move (av := .exact (.int .i64 x4_l14)) rfl ?_)
                  obtain ⟨n1044, h⟩ := need_some h
                  refine Py_q no34_0 rfl rfl rfl (op_index_row (by kernel_rfl) rfl rfl n1044.1 n1044.2 ?_)
                  refine Py_q no34_0 rfl rfl rfl (op_load1p (a := .exact (.string (bs (gi a0 x4_l14)))) (by kernel_rfl) rfl rfl ?_)
                  obtain ⟨n1045, h⟩ := need_some h
                  refine Py_r rfl rfl rfl (op_index_vec (by kernel_rfl) rfl rfl n1045.1 n1045.2 ?_)
                  refine Py_r rfl rfl rfl (op_load_vec1 (i := i64 (x5_l26 - 1)) (o := 0) (a := .exact (.string (bs (gi x3_l14 (i64 (x5_l26 - 1)))))) (by kernel_rfl) len_c_api_Value rfl n1045.1 n1045.2 rfl ?_)
                  obtain ⟨y1046, hy1046, h⟩ := bnd1_some h
                  refine Py_q no34_0 rfl rfl rfl (op_pure (m_ref9_Compare_ok _ _ _ hy1046) Tryz.func56 (by kernel_rfl) (LEs.cons (AV.le_eq rfl) (LEs.cons (AV.le_eq rfl) LEs.nil)) ?_)
                  refine Py_q no34_0 rfl rfl rfl (op_gtr rfl rfl ?_)
                  refine P_q no34_0 rfl (op_pick_t rfl (av := .exact (.bool (decide (0 < y1046)))) rfl ?_)
                  refine P_nil ?_
                  refine kI_normal ⟨_, h, ?_⟩
                  exact Sub.of_le (AF.le_put (AV.le_eq rfl) (AF.le_put (AV.le_eq rfl) (AF.le_put (AV.le_eq rfl) (AF.le_put (AV.le_eq rfl) (AF.le_put (AV.le_eq rfl) (AF.le_top _))))))
                · replace h := ite_f h hc
                  refine P_n no34_0 rfl rfl rfl ?_
                  refine P_n no34_0 rfl rfl rfl ?_
                  refine P_n no34_0 rfl rfl rfl ?_
                  refine P_n no34_0 rfl rfl rfl ?_
                  refine P_n no34_0 rfl rfl rfl ?_
                  refine P_n no34_0 rfl rfl rfl ?_
                  refine P_n no34_0 rfl rfl rfl ?_
                  refine P_n no34_1 rfl rfl rfl ?_
                  refine P_n no34_1 rfl rfl rfl ?_
                  refine P_n no34_0 rfl rfl rfl ?_
                  refine P_n no34_0 rfl rfl rfl ?_
                  refine P_q no34_0 rfl (op_pick_f rfl (av := .exact (.bool false)) rfl ?_)
                  refine P_nil ?_
                  refine kI_normal ⟨_, h, ?_⟩
                  exact Sub.of_le (AF.le_put (AV.le_eq rfl) (AF.le_put (AV.le_eq rfl) (AF.le_put (AV.le_eq rfl) (AF.le_put (AV.le_eq rfl) (AF.le_put (AV.le_eq rfl) (AF.le_top _))))))
              · refine k_cond_b (c := x28_j1040) rfl (fun hc => ?_) (fun hc => ?_)
                · replace h := ite_t h hc
                  refine k_skip ?_
                  refine kC_normal ?_
                  refine k_block ?_
                  refine k_reg .free hmixP (by kernel_rfl) ?_
                  refine G_q rfl (op_move (av := .exact (.int .i64 x5_l26)) rfl ?_)
                  refine G_q rfl (op_sub rfl rfl rfl ?_)
                  refine G_q rfl (op_assign (av := .exact (.int .i64 (i64 (x5_l26 - 1)))) rfl ?_)
                  refine G_nil ?_
                  refine kB_normal ?_
                  refine kI_normal ⟨_, h, ?_⟩
                  exact Sub.of_le (AF.le_put (AV.le_eq rfl) (AF.le_put (AV.le_eq rfl) (AF.le_put (AV.le_eq rfl) (AF.le_put (AV.le_eq rfl) (AF.le_top _)))))
                · replace h := ite_f h hc
                  refine k_exit ?_
                  refine kC_exit ?_
                  refine kI_exit ?_
                  refine kB_exit ?_
                  refine kI_normal ⟨_, h, ?_⟩
                  exact Sub.of_le (AF.le_put (AV.le_eq rfl) (AF.le_put (AV.le_eq rfl) (AF.le_put (AV.le_eq rfl) (AF.le_put (AV.le_eq rfl) (AF.le_top _)))))
          · refine k_seq ?_
            refine k_join1_0 h (fun (x44_j1053 : Bool) => (AF.put (AF.put (AF.put (AF.put (AF.put AF0 (some 0) (.row 1 c_api_Value a0)) (some 3) (.exact v3_l14)) (some 4) (.exact (.int .i64 x4_l14))) (some 5) (.exact (.int .i64 x5_j955))) (some 44) (.exact (.bool x44_j1053)))) (fun (x44_j1053 : Bool) => [vecT Tryz.prog 27 1 c_api_Value v3_l14 x3_l14]) (fun k1053 h => ?_) (fun x44_j1053 h => ?_)
            · refine k_plan [] [(0, 0), (0, 1), (0, 2), (0, 3), (0, 4), (0, 5), (0, 8), (0, 9), (0, 10), (0, 11), (1, 6), (1, 7), (0, 12), (0, 13)] hmixP (by kernel_rfl) ?_
              refine P_q no34_0 rfl (op_move (av := .exact (.int .i64 x5_j955)) rfl ?_)
              refine P_q no34_0 rfl (op_gtr rfl rfl ?_)
              refine P_q no34_0 rfl (op_move (av := .exact (.bool (decide (0 < x5_j955)))) rfl ?_)
              refine P_split (p := 0 < x5_j955) 33 rfl (fun hc => ?_) (fun hc => ?_)
              · replace h := ite_t h hc
                refine Py_q no34_0 rfl rfl rfl (op_move (av := .exact v3_l14) rfl ?_)
                refine Py_q no34_0 rfl rfl rfl (op_move (av := .exact (.int .i64 x5_j955)) rfl ?_)
                refine Py_q no34_0 rfl rfl rfl (op_sub rfl rfl rfl ?_)
                refine Py_q no34_0 rfl rfl rfl (op_move (av := .row 1 c_api_Value a0) rfl ?_)
                refine Py_q no34_0 rfl rfl rfl (op_move (av := .exact (.int .i64 x4_l14)) rfl ?_)
                obtain ⟨n1056, h⟩ := need_some h
                refine Py_q no34_0 rfl rfl rfl (op_index_row (by kernel_rfl) rfl rfl n1056.1 n1056.2 ?_)
                refine Py_q no34_0 rfl rfl rfl (op_load1p (a := .exact (.string (bs (gi a0 x4_l14)))) (by kernel_rfl) rfl rfl ?_)
                obtain ⟨n1057, h⟩ := need_some h
                refine Py_r rfl rfl rfl (op_index_vec (by kernel_rfl) rfl rfl n1057.1 n1057.2 ?_)
                refine Py_r rfl rfl rfl (op_load_vec1 (i := i64 (x5_j955 - 1)) (o := 0) (a := .exact (.string (bs (gi x3_l14 (i64 (x5_j955 - 1)))))) (by kernel_rfl) len_c_api_Value rfl n1057.1 n1057.2 rfl ?_)
                refine Py_q no34_0 rfl rfl rfl (op_eqlS rfl rfl ?_)
                refine P_q no34_0 rfl (op_pick_t rfl (av := .exact (.bool (decide ((gi x3_l14 (i64 (x5_j955 - 1))) = (gi a0 x4_l14))))) rfl ?_)
                refine P_nil ?_
                refine kI_normal ⟨_, h, ?_⟩
                exact Sub.of_le (AF.le_put (AV.le_eq rfl) (AF.le_put (AV.le_eq rfl) (AF.le_put (AV.le_eq rfl) (AF.le_put (AV.le_eq rfl) (AF.le_put (AV.le_eq rfl) (AF.le_top _))))))
              · replace h := ite_f h hc
                refine P_n no34_0 rfl rfl rfl ?_
                refine P_n no34_0 rfl rfl rfl ?_
                refine P_n no34_0 rfl rfl rfl ?_
                refine P_n no34_0 rfl rfl rfl ?_
                refine P_n no34_0 rfl rfl rfl ?_
                refine P_n no34_0 rfl rfl rfl ?_
                refine P_n no34_0 rfl rfl rfl ?_
                refine P_n no34_1 rfl rfl rfl ?_
                refine P_n no34_1 rfl rfl rfl ?_
                refine P_n no34_0 rfl rfl rfl ?_
                refine P_q no34_0 rfl (op_pick_f rfl (av := .exact (.bool false)) rfl ?_)
                refine P_nil ?_
                refine kI_normal ⟨_, h, ?_⟩
                exact Sub.of_le (AF.le_put (AV.le_eq rfl) (AF.le_put (AV.le_eq rfl) (AF.le_put (AV.le_eq rfl) (AF.le_put (AV.le_eq rfl) (AF.le_put (AV.le_eq rfl) (AF.le_top _))))))
            · refine k_cond_b (c := x44_j1053) rfl (fun hc => ?_) (fun hc => ?_)
              · replace h := ite_t h hc
                refine k_exit ?_
                refine kC_exit ?_
                refine kB_exit ?_
                refine kI_normal ⟨_, v3_l14, h, ?_⟩
                exact Sub.of_le (AF.le_put (AV.le_eq rfl) (AF.le_put (AV.le_eq rfl) (AF.le_put (AV.le_eq rfl) (AF.le_top _))))
              · replace h := ite_f h hc
                refine k_skip ?_
                refine kC_normal ?_
                refine k_seq ?_
                refine k_reg .free hmixP (by kernel_rfl) ?_
                refine G_q rfl (op_move (av := .exact v3_l14) rfl ?_)
                refine G_q rfl (op_litT (n := 1) (enc := c_api_Value) [([] : List UInt8)] (CellsAll.cons rfl CellsOf.str CellsAll.nil) rfl (by kernel_rfl) (LEss.cons (LEs.cons (AV.le_eq rfl) LEs.nil) LEss.nil) ?_)
                obtain ⟨n1058, h⟩ := need_some h
                refine G_l rfl (op_appT (by kernel_rfl) rfl rfl oc_c_api_Value n1058 (fun v1059 => ?_))
                refine G_q rfl (op_assign (av := .exact v1059) rfl ?_)
                refine G_nil ?_
                refine kC_normal ?_
                refine k_seq ?_
                refine k_plan [] [(0, 0), (0, 1), (0, 2), (0, 4), (0, 5), (1, 3), (1, 6), (2, 7)] hmixP (by kernel_rfl) ?_
                refine P_q no34_0 rfl (op_move (av := .exact v1059) rfl ?_)
                refine P_q no34_0 rfl (op_move (av := .exact (.int .i64 x5_j955)) rfl ?_)
                refine P_q no34_0 rfl (op_add rfl rfl rfl ?_)
                refine P_q no34_0 rfl (op_move (av := .exact v1059) rfl ?_)
                refine P_q no34_0 rfl (op_move (av := .exact (.int .i64 x5_j955)) rfl ?_)
                obtain ⟨n1060, h⟩ := need_some h
                refine P_r rfl (op_slice_vec (by kernel_rfl) rfl (bnd_some rfl) bnd_none n1060.1 n1060.2.1 n1060.2.2 ?_)
                obtain ⟨n1061, h⟩ := need_some h
                refine P_r rfl (op_slice_vec (by kernel_rfl) rfl (bnd_some rfl) bnd_none n1061.1 n1061.2.1 n1061.2.2 ?_)
                refine P_l rfl (op_copy (q := (Nat.min (Int.toNat (List.length (x3_l14 ++ ([([] : List UInt8)])) : Int) - Int.toNat x5_j955) (Int.toNat (List.length (x3_l14 ++ ([([] : List UInt8)])) : Int) - Int.toNat (i64 (x5_j955 + 1))))) (by kernel_rfl) (by kernel_rfl) len_c_api_Value oc_c_api_Value rfl rfl (by have hh := n1060; first | omega | (simp only [i64] at hh; omega) | (simp only [i64] at hh ⊢; omega)) (by have hh := n1061; first | omega | (simp only [i64] at hh; omega) | (simp only [i64] at hh ⊢; omega)) rfl ?_)
                refine P_nil ?_
                refine kC_normal ?_
                refine k_reg .free hmixP (by kernel_rfl) ?_
                refine G_q rfl (op_move (av := .exact v1059) rfl ?_)
                refine G_q rfl (op_move (av := .exact (.int .i64 x5_j955)) rfl ?_)
                refine G_q rfl (op_move (av := .row 1 c_api_Value a0) rfl ?_)
                refine G_q rfl (op_move (av := .exact (.int .i64 x4_l14)) rfl ?_)
                obtain ⟨n1062, h⟩ := need_some h
                refine G_q rfl (op_index_row (by kernel_rfl) rfl rfl n1062.1 n1062.2 ?_)
                refine G_q rfl (op_load1p (a := .exact (.string (bs (gi a0 x4_l14)))) (by kernel_rfl) rfl rfl ?_)
                obtain ⟨n1063, h⟩ := need_some h
                refine G_r rfl (op_index_vec (by kernel_rfl) rfl rfl n1063.1 n1063.2 ?_)
                refine G_l rfl (op_store_vec (i := x5_j955) (o := 0) (z := gi a0 x4_l14) (c' := [.exact (.string (bs (gi a0 x4_l14)))]) (by kernel_rfl) len_c_api_Value rfl n1063.1 n1063.2 rfl CellsOf.str (LEs.cons (AV.le_eq rfl) LEs.nil) (OneC.str OneC.nil) (by kernel_rfl) (Nat.le_of_ble_eq_true rfl) rfl ?_)
                refine G_nil ?_
                refine kB_normal ?_
                refine kI_normal ⟨_, v1059, h, ?_⟩
                exact Sub.of_le (AF.le_put (AV.le_eq rfl) (AF.le_put (AV.le_eq rfl) (AF.le_put (AV.le_eq rfl) (AF.le_top _))))
        · refine k_reg .free hmixP (by kernel_rfl) ?_
          refine G_q rfl (op_move (av := .exact (.int .i64 x4_l14)) rfl ?_)
          refine G_q rfl (op_add rfl rfl rfl ?_)
          refine G_q rfl (op_assign (av := .exact (.int .i64 (i64 (x4_l14 + 1)))) rfl ?_)
          refine G_nil ?_
          refine kI_normal ⟨_, _, v3_j844, h, ?_⟩
          exact Sub.of_le (AF.le_put (AV.le_eq rfl) (AF.le_put (AV.le_eq rfl) (AF.le_put (AV.le_eq rfl) (AF.le_top _))))
      · replace h := ite_f h hc
        refine k_exit ?_
        refine kC_exit ?_
        refine kI_exit ?_
        refine kB_exit ?_
        refine kI_normal ⟨_, v3_l14, h, ?_⟩
        exact Sub.of_le (AF.le_put (AV.le_eq rfl) (AF.le_top _))
  · refine k_seq ?_
    refine k_reg .free hmixP (by kernel_rfl) ?_
    refine G_q rfl (op_move (av := .exact v3_j1) rfl ?_)
    refine G_q rfl (op_assign (av := .exact v3_j1) rfl ?_)
    refine G_nil ?_
    refine kC_normal ?_
    refine k_ret ?_
    obtain rfl := Option.some.inj h
    refine kP_any (endN (af' := (AF.put AF0 (some 2) (.row 1 c_api_Value x3_j1))) (σ' := []) _ rfl ?_ ⟨rfl, rfl⟩)
    refine Sub.trans (SubU.to (SubU.freezeT (s := 2) rfl len_c_api_Value)) ?_
    exact Sub.of_le (AF.le_put (AV.le_eq rfl) (AF.le_top _))
set_option maxHeartbeats 4000000 in
theorem m_ref9_Set_ok (a0 : List (List UInt8)) (r : (List UInt8)) (h : m_ref9_Set a0 = some r) : Pure Tryz.prog 34 [(.row 1 c_api_Value a0)] (.exact (.string (bs r))) := by
  unfold m_ref9_Set at h
  refine Pure.ofFun (fun_of_awp Tryz.func34 rfl Tryz.ntmps34 (by simp) rfl (res1 rfl) fun E hE => k_end ?_)
  refine k_seq ?_
  refine k_reg .free hmixP (by kernel_rfl) ?_
  refine G_q rfl (op_assign (av := .exact (.string (bs ([] : List UInt8)))) rfl ?_)
  refine G_nil ?_
  refine kC_normal ?_
  refine k_seq ?_
  refine k_seq ?_
  refine k_reg .free hmixP (by kernel_rfl) ?_
  refine G_q rfl (op_move (av := .row 1 c_api_Value a0) rfl ?_)
  obtain ⟨y1, hy1, h⟩ := bnd1_some h
  refine G_q rfl (op_pure (m_ref9_all_ok _ _ hy1) Tryz.func62 (by kernel_rfl) (LEs.cons (AV.le_eq rfl) LEs.nil) ?_)
  refine G_q rfl (op_not rfl ?_)
  refine G_nil ?_
  refine kC_normal ?_
  refine k_cond_b (c := !y1) rfl (fun hc => ?_) (fun hc => ?_)
  · replace h := ite_t h hc
    refine k_seq ?_
    refine k_reg .free hmixP (by kernel_rfl) ?_
    refine G_q rfl (op_assign (av := .exact (.string (bs ([] : List UInt8)))) rfl ?_)
    refine G_nil ?_
    refine kC_normal ?_
    refine k_ret ?_
    refine kC_ret ?_
    obtain rfl := Option.some.inj h
    refine kP_any (endN (af' := (AF.put AF0 (some 2) (.exact (.string (bs ([] : List UInt8)))))) (σ' := []) _ rfl ?_ ⟨rfl, rfl⟩)
    exact Sub.of_le (AF.le_put (AV.le_eq rfl) (AF.le_top _))
  · replace h := ite_f h hc
    refine k_skip ?_
    refine kC_normal ?_
    refine k_seq ?_
    refine k_reg .free hmixP (by kernel_rfl) ?_
    refine G_q rfl (op_move (av := .row 1 c_api_Value a0) rfl ?_)
    obtain ⟨y2, hy2, h⟩ := bnd1_some h
    refine G_q rfl (op_pure (m_ref9_Sort_ok _ _ hy2) Tryz.func24 (by kernel_rfl) (LEs.cons (AV.le_eq rfl) LEs.nil) ?_)
    obtain ⟨y3, hy3, h⟩ := bnd1_some h
    refine G_q rfl (op_pure (m_ref9_compound_ok _ _ _ hy3) Tryz.func63 (by kernel_rfl) (LEs.cons (AV.le_eq rfl) (LEs.cons (AV.le_eq rfl) LEs.nil)) ?_)
    refine G_q rfl (op_assign (av := .exact (.string (bs y3))) rfl ?_)
    refine G_nil ?_
    refine kC_normal ?_
    refine k_ret ?_
    obtain rfl := Option.some.inj h
    refine kP_any (endN (af' := (AF.put AF0 (some 2) (.exact (.string (bs y3))))) (σ' := []) _ rfl ?_ ⟨rfl, rfl⟩)
    exact Sub.of_le (AF.le_put (AV.le_eq rfl) (AF.le_top _))
end Go.Proofs.YtdppkpiagdaigaaGreatDoor
