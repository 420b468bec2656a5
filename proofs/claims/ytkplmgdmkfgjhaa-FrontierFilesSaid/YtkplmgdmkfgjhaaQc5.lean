/- The disk: what it is made of; its methods. -/
import Derived.Test.YtkplmgdmkfgjhaaQc4
import Derived.Shelf.SlMaps.Clone
import Derived.Test.YtkplmgdmkfgjhaaQc0
import Derived.Shelf.SortM.Plain
import Derived.Shelf.SortM.SortNone
namespace Go.Proofs.Ytkplmgdmkfgjhaa
open Go.RowKit Go.Maps
abbrev DkZ := Value × List UInt8 × Int
abbrev z0 : DkZ := (.slice none 0 0, [], 0)
/-- The variable of a disk. -/
abbrev dB (b nb db : Nat) (pv : Value) (D : Dk) : Item := boxI 81 b [.exact (.int .i64 D.cap), .exact (.map (some nb)), .exact (.map (some db)), .exact pv, .exact (.int .i64 D.wr), .exact (.int .i64 D.fl), .exact (.bool D.dn)]
/-- A directory. -/
abbrev dM (hb : List Nat) (nb : Nat) (l : List (List UInt8 × Int)) : Item := mapI (fun _ => True) (fun k : List UInt8 => .string (bs k)) (fun x : Int => refA hb x) nb l
abbrev opE (hb : List Nat) (x : List UInt8 × List UInt8 × Int) : List AV := [.exact (.string (bs x.1)), .exact (.string (bs x.2.1)), refA hb x.2.2]
/-- The pending operations. -/
abbrev dP (hb : List Nat) (pv : Value) (l : List (List UInt8 × List UInt8 × Int)) : Item := vecT Try.prog 79 3 (opE hb) pv l
abbrev fEnc (z : DkZ) : List AV := [.exact z.1, .exact (.int .i64 z.2.2)]
/-- The files. -/
abbrev dH (hb : List Nat) (Z : List DkZ) : Item := hpI 87 fEnc hb Z
abbrev dV (z : DkZ) : Item := vecO Try.prog 32 1 cU8 z.1 z.2.1
/-- Their bytes. -/
abbrev dVs (Z : List DkZ) : Item := allI (Z.map dV)
theorem oc_opE (hb : List Nat) (x : List UInt8 × List UInt8 × Int) : OneC (opE hb x) := OneC.cons (fun M w u h => by rw [show u = _ from h]; rfl) (OneC.cons (fun M w u h => by rw [show u = _ from h]; rfl) (OneC.ref OneC.nil))
theorem vec_isSl {M : BSet} {w : World} {P : Program} {t : TypeId} {n : Nat} {enc : UInt8 → List AV} {v : Value} {xs : List UInt8} (h : (vecO P t n enc v xs).p M w) : ∃ A c, v = .slice A xs.length c := by
  obtain ⟨vs, hown, _⟩ := h
  rcases hown.2 with ⟨rfl, h0⟩ | ⟨g, o, cap, cur, rfl, _⟩
  · exact ⟨none, 0, by rw [h0]⟩
  · exact ⟨_, _, rfl⟩
theorem opB_slO {P : Program} {o : Oper} {af : AF} {σ : Items} {K : AF → Items → Prop} {t : TypeId} {n : Nat} {enc : UInt8 → List AV} {v : Value} {xs : List UInt8} (hm : vecO P t n enc v xs ∈ σ) (h : IsSl v → opB P o af σ K) : opB P o af σ K := by
  by_cases hs : IsSl v
  · exact h hs
  · exact ⟨fun _ _ => False, fun F w ev hg hx => absurd (vec_isSl (hg.items _ hm)) (fun ⟨A, c, e⟩ => hs ⟨A, _, c, e⟩), fun _ _ h => h.elim⟩
theorem gi_mem {α : Type} [Inhabited α] {l : List α} {i : Int} (h0 : 0 ≤ i) (h1 : i < (l.length : Int)) : gi l i ∈ l := by
  obtain ⟨k, rfl⟩ : ∃ k : Nat, i = (k : Int) := ⟨i.toNat, by omega⟩
  rw [gi_nat (by omega)]; exact List.getElem_mem _
/-- The number of bytes of a file. -/
theorem op_len_dVs {P : Program} {af : AF} {σ : Items} {d : Option Tmp} {ty t e : TypeId} {pos : String} {after : Array Edge} {g : Option (Nat × Bool)} {x : Operand} {Z : List DkZ} {i : Int} {K : AF → Prop} (hi : allI (Z.map (fun z : DkZ => vecO P e 1 cU8 z.1 z.2.1)) ∈ σ) (hB : isSliceB P t = true) (h0 : 0 ≤ i) (h1 : i < (Z.length : Int)) (hx : af.ev x = .exact (gi Z i).1) (hk : K (af.put d (.exact (.int .i64 ((gi Z i).2.1.length : Int))))) :
    opR P ⟨d, .call { callee := .builtin .len, args := #[x], argTypes := #[t] }, ty, pos, after, g⟩ af σ K := by
  refine ⟨_, fun F w ev hg h => ?_, hk⟩
  have e1 := opnd h (x := x) (by simp [Op.operands, Call.operands]) hx
  obtain ⟨e, hu⟩ := isSliceB_spec hB
  obtain ⟨A, c, hv⟩ := vec_isSl (hg.items _ hi _ (List.mem_map_of_mem (gi_mem h0 h1)))
  rw [hv] at e1
  simp [execOp, resolve, invoke, builtin, Builtin.len_, e1, run_under hu, goInt, go_sem, UponQ]
  exact ⟨Keeps.refl _ _, rfl⟩
theorem gi_map {α β : Type} [Inhabited α] [Inhabited β] {f : α → β} {l : List α} {i : Int} (h0 : 0 ≤ i) (h1 : i < (l.length : Int)) : gi (l.map f) i = f (gi l i) := by
  obtain ⟨k, rfl⟩ : ∃ k : Nat, i = (k : Int) := ⟨i.toNat, by omega⟩
  rw [gi_nat (by rw [List.length_map]; omega), gi_nat (by omega), List.getElem_map]
theorem dk_letop (a : AV) : AV.le a .top := fun _ _ _ _ => trivial
/-- All of a disk. -/
abbrev dIts (hb : List Nat) (b nb db : Nat) (pv : Value) (D : Dk) (Z : List DkZ) : Items := [dB b nb db pv D, dM hb nb D.names, dM hb db D.dur, dP hb pv D.pend, dH hb Z, dVs Z]
theorem dV_set {Z : List DkZ} {i : Int} (h0 : 0 ≤ i) (h1 : i < (Z.length : Int)) (x : Int) : (Z.set i.toNat ((gi Z i).1, (gi Z i).2.1, x)).map dV = Z.map dV := by
  obtain ⟨k, rfl⟩ : ∃ k : Nat, i = (k : Int) := ⟨i.toNat, by omega⟩
  have hk : k < Z.length := by omega
  rw [List.map_set, gi_nat hk, Int.toNat_natCast]
  show (Z.map dV).set k (dV Z[k]) = _
  rw [← List.getElem_map (f := dV) (h := by rw [List.length_map]; exact hk), List.set_getElem_self]
theorem Bor.dVs {P : Program} {e : TypeId} {σ : Items} {Z : List DkZ} {i : Int} (hm : allI (Z.map (fun z : DkZ => vecO P e 1 cU8 z.1 z.2.1)) ∈ σ) (h0 : 0 ≤ i) (h1 : i < (Z.length : Int)) : Bor σ (.exact (gi Z i).1) (.row 1 cU8 (gi Z i).2.1) := fun F w u hg hx => by
  obtain rfl : u = (gi Z i).1 := hx
  have hz := List.mem_map_of_mem (f := fun z : DkZ => vecO P e 1 cU8 z.1 z.2.1) (gi_mem h0 h1)
  refine vecO_row (fun k hk hF => ?_) (fun _ => rfl) (hg.items _ hm _ hz) (fun k _ hF => .inl hF)
  exact (hg.own k (List.mem_flatMap.2 ⟨_, hm, List.mem_flatMap.2 ⟨_, hz, by simp [vecO, hk]⟩⟩)).2 hF
/-- A call that makes a row of its own from what is lent. -/
theorem op_ownB {α : Type} {P : Program} {af : AF} {σ : Items} {d : Option Tmp} {ty : TypeId} {pos : String} {after : Array Edge} {g : Option (Nat × Bool)} {f : FuncId} {fn : Func} {args : List AV} {t : TypeId} {n : Nat} {enc : α → List AV} {ys : List α} {xs : List Operand} {ats : Array TypeId} {K : AF → Items → Prop}
    (hp : Fun P f args [] (fun a s => ∃ z, a = .exact z ∧ s = [vecT P t n enc z ys])) (hf : P.funcs[f]? = some fn) (hb : (fn.body.isNone || fn.name == "runtime.NumGoroutine") = false) (hmi : ∀ a ∈ ys.flatMap enc, MI a)
    (hx : Bors σ (xs.map af.ev) args) (hk : ∀ z, K (af.put d (.exact z)) (vecT P t n enc z ys :: σ)) : opB P ⟨d, .call { callee := .value (.func f), args := xs.toArray, argTypes := ats }, ty, pos, after, g⟩ af σ K := by
  refine ⟨fun a s => ∃ z, a = .exact z ∧ s = vecT P t n enc z ys :: σ, fun F w ev hg h => ?_, fun av s ⟨z, e1, e2⟩ => by subst e1 e2; exact hk z⟩
  have he' : ev (.func f) = .func (.func f) #[] #[] := h (.func f) (by simp [Op.operands, Call.operands])
  rw [run_call hf hb he']
  have h0 : Fit (both F (Items.own σ)) w (xs.map af.ev) (xs.map ev) := fit_args (args := xs.map af.ev) h (by
    clear hx h
    induction xs with
    | nil => trivial
    | cons x xs ih => exact ⟨AV.le_refl _, ih⟩)
  have hown0 : ∀ k, ¬ Items.own ([] : Items) k := fun k hk => by simp [Items.own] at hk
  refine (hp F w _ ⟨hg.fr, fun k hk => (hown0 k hk).elim, List.nodup_nil, fun it hi => by cases hi⟩ ((hx.fit hg h0).keep (Keeps.refl _ _) (fun k _ hk => hk.elim id (fun h => (hown0 k h).elim)))).mono ?_
  rintro e w' ⟨v, he, av, σ', ⟨z, rfl, rfl⟩, hg2, hk2, hn, hpv⟩
  have hv1 : ∀ k, k ∈ (vecT P t n enc z ys).own → k < w'.heap.size ∧ ¬ F k := fun k h => hg2.own k (own_cons.2 (.inl h))
  have hv2 : ∀ k, k ∈ (vecT P t n enc z ys).own → ¬ k < w.heap.size := fun k h hlt => hown0 k (hn k (own_cons.2 (.inl h)) hlt)
  have hit := hg2.items (vecT P t n enc z ys) List.mem_cons_self
  have hnd := hg2.nodup
  rw [List.flatMap_cons, List.nodup_append] at hnd
  refine ⟨v, he, .exact z, vecT P t n enc z ys :: σ, ⟨z, rfl, rfl⟩, ⟨fun k hk => Nat.lt_of_lt_of_le (hg.fr k hk) hk2.size, fun k hk => ?_, ?_, fun it hi => ?_⟩, hk2.mono (fun k _ h => (hown0 k h).elim), fun k h hlt => ?_, hpv⟩
  · rcases own_cons.1 hk with hk | hk
    · exact hv1 k hk
    · exact ⟨Nat.lt_of_lt_of_le (hg.own k hk).1 hk2.size, (hg.own k hk).2⟩
  · rw [List.flatMap_cons, List.nodup_append]
    refine ⟨hnd.1, hg.nodup, fun a ha b hb hab => ?_⟩
    subst hab
    exact hv2 a ha (hg.own a hb).1
  · rcases List.mem_cons.1 hi with rfl | hi
    · obtain ⟨us, g1, g2⟩ := hit
      exact ⟨us, g1, MI.fit hmi g2⟩
    · refine it.keep (hk2.mono (fun k _ h => (hown0 k h).elim)) (fun k hlt h => ?_) (hg.items it hi)
      rcases h with h | h
      · exact .inl h
      · rcases own_cons.1 h with h | h
        · exact absurd hlt (hv2 k h)
        · exact .inr h
  · rcases own_cons.1 h with h | h
    · exact absurd hlt (hv2 k h)
    · exact h
theorem mi_cU8 (ys : List UInt8) : ∀ a ∈ ys.flatMap cU8, MI a := fun a ha => by
  obtain ⟨y, _, hy⟩ := List.mem_flatMap.1 ha
  rw [List.mem_singleton.1 hy]; exact MI.exact
theorem dk_ocU8 (x : UInt8) : OneC (cU8 x) := OneC.cons (fun M w u h => by rw [show u = _ from h]; rfl) OneC.nil
theorem dk_half {n : Nat} (h : n ≤ 137438953472) : IntKind.i64.wrap (Int.tdiv (n : Int) 2) = ((n / 2 : Nat) : Int) := by
  have h1 : Int.tdiv (n : Int) 2 = ((n / 2 : Nat) : Int) := by rw [Int.tdiv_eq_ediv_of_nonneg (by omega)]; omega
  rw [h1]
  exact i64_id (by omega)
theorem dV_nil (M : BSet) (w : World) : (dV z0).p M w := ⟨[], ⟨rfl, .inl ⟨rfl, rfl⟩⟩, trivial⟩
theorem dk_gil {Z : List DkZ} {z : DkZ} : gi (Z ++ [z]) (Z.length : Int) = z := by
  rw [gi_nat (by simp)]; simp
theorem dk_newf {Z : List DkZ} {v : Value} {y : List UInt8} : Z.map (·.2) ++ [(y, (0 : Int))] = ((Z ++ [z0]).set ((Z.length : Int)).toNat (v, (gi (Z ++ [z0]) (Z.length : Int)).2.1 ++ y, (gi (Z ++ [z0]) (Z.length : Int)).2.2)).map (·.2) := by
  rw [dk_gil, Int.toNat_natCast, List.set_append]
  simp
theorem dk_pfn {s : List UInt8} {i : Int} {l : List (List UInt8 × Int)} (h : i ≠ -1) : dkPf ([], s, i) l = putL l s i := by
  unfold dkPf; simp [h]
theorem SubU.takeG {α : Type} [Inhabited α] {af : AF} {σ : Items} {f : α → Item} {l : List α} {i : Int} (h0 : 0 ≤ i) (h1 : i < (l.length : Int)) : SubU af (allI (l.map f) :: σ) af (f (gi l i) :: allI ((l.eraseIdx i.toNat).map f) :: σ) := by
  obtain ⟨k, rfl⟩ : ∃ k : Nat, i = (k : Int) := ⟨i.toNat, by omega⟩
  rw [gi_nat (by omega), Int.toNat_natCast]; exact SubU.take (by omega)
theorem SubU.putG {α : Type} {af : AF} {σ : Items} {f : α → Item} {l : List α} {i : Int} {x : α} (h0 : 0 ≤ i) (h1 : i < (l.length : Int)) : SubU af (f x :: allI ((l.eraseIdx i.toNat).map f) :: σ) af (allI ((l.set i.toNat x).map f) :: σ) := SubU.put (by omega)
theorem dV_own : (dV z0).own = [] := rfl
theorem SubU.newVs {af : AF} {σ : Items} : SubU af σ af (dVs [] :: σ) := SubU.repack (.refl _) (fun M w h it hi => by
  rcases List.mem_cons.1 hi with rfl | hi
  · intro it hi; cases hi
  · exact h it hi)
def laymc_ren : Go.Shelf.Ren := ⟨fun | 5 => 73 | 7 => 98 | n => n, fun | 3 => 88 | 4 => 4 | 20 => 20 | 23 => 78 | 25 => 9 | n => n, fun n => n⟩
theorem laymc : Go.Proofs.SlLaysW.n5 Try.prog laymc_ren where
  mixed := by kernel_rfl
  f5 := ⟨Try.f73.name, by kernel_rfl, Try.func73.trans (congrArg some (by kernel_rfl))⟩
  f7 := Try.func98.trans (congrArg some (by kernel_rfl))
  t4 := Try.underlying4
  a4 := Try.isAgg4
  z4 := Try.sizeOf4
  v4 := Try.zeroValue4
  t20 := Try.underlying20
  a20 := Try.isAgg20
  z20 := Try.sizeOf20
  v20 := Try.zeroValue20
  t23 := Try.underlying78
  a23 := Try.isAgg78
  z23 := Try.sizeOf78
  v23 := Try.zeroValue78
theorem dk_clone {hb : List Nat} {nb : Nat} {l : List (List UInt8 × Int)} : Fun Try.prog 73 [.exact (.map (some nb))] [dM hb nb l] (fun a s => ∃ nb', a = .exact (.map (some nb')) ∧ s = [dM hb nb' l, dM hb nb l]) := by
  intro F w vs hg hfit
  match vs, hfit with
  | [v], ⟨e1, _⟩ =>
  have e1 : v = .map (some nb) := e1
  subst e1
  obtain ⟨es, clock, ⟨h1, h2, h3⟩, h4, h5⟩ := hg.items (dM hb nb l) List.mem_cons_self
  refine (AnyW.maps_Clone laymc nb es clock w h1).mono fun e w' ⟨he, hw⟩ => ?_
  subst he hw
  refine ⟨_, rfl, ?_⟩
  have hk0 : Keeps noB w (w.alloc (.map es clock)) := ⟨rfl, rfl, rfl, Nat.le_refl _, by simp, fun k hlt _ => heap_alloc_old w _ hlt⟩
  exact out_new (it := dM hb w.heap.size l) hg rfl (fun M hM => ⟨es, clock, ⟨(MapKept.heap_alloc w _).1, h2, h3⟩, h4.keep (hk0.mono (fun _ _ h => h.elim)) hM, h5⟩) (fun M => rfl) ⟨_, rfl, rfl⟩
attribute [local irreducible] AV.exact AV.top AV.row AV.ptr AV.agg AV.tup AV.eptr AV.fn AV.nilq AV.nilqn opA opB opM opR Quiet Loud Reads wpG awp den Sub SubU Pure Fun vecI vecT vecO boxI hpI mapI allI refA hptA CellsAll CellsOf OneC LEs LEss
set_option maxRecDepth 100000
set_option maxHeartbeats 4000000 in
theorem dk_write {b nb db : Nat} {pv : Value} (D : Dk) : Fun Try.prog 56 [pA b 0] [dB b nb db pv D] (fun a s => a = .exact (.bool (!(dkWr D).dn)) ∧ s = [dB b nb db pv (dkWr D)]) := by
  refine fun_of_awp Try.func56 rfl Try.ntmps56 (by simp) rfl (res1 rfl) fun E hE => k_end ?_
  refine k_seq ?_
  refine k_reg .free hmixP (by kernel_rfl) ?_
  refine G_q rfl (op_assign (av := .exact (.bool false)) rfl ?_)
  refine G_nil ?_
  refine kC_normal ?_
  refine k_seq ?_
  refine k_reg .free hmixP (by kernel_rfl) ?_
  refine G_q rfl (op_move (av := pA b 0) rfl ?_)
  refine G_q rfl (op_nilCheck rfl ?_)
  refine G_q rfl (op_fieldAddr (o := 4) (by kernel_rfl) rfl ?_)
  refine G_r rfl (op_load_box1 (a := .exact (.int .i64 D.wr)) (by kernel_rfl) rfl rfl ?_)
  refine G_q rfl (op_add rfl rfl rfl ?_)
  refine G_q rfl (op_nilCheck rfl ?_)
  refine G_q rfl (op_fieldAddr (o := 4) (by kernel_rfl) rfl ?_)
  refine G_l rfl (op_store_box (c' := [.exact (.int .i64 (i64 (D.wr + 1)))]) (c3 := [.exact (.int .i64 D.cap), .exact (.map (some nb)), .exact (.map (some db)), .exact pv, .exact (.int .i64 (i64 (D.wr + 1))), .exact (.int .i64 D.fl), .exact (.bool D.dn)]) rfl rfl CellsOf.int (LEs.cons (AV.le_eq rfl) LEs.nil) (OneC.int OneC.nil) (by kernel_rfl) (Nat.le_of_ble_eq_true rfl) rfl ?_)
  refine G_nil ?_
  refine kC_normal ?_
  refine k_seq ?_
  refine k_seq ?_
  refine k_reg .free hmixP (by kernel_rfl) ?_
  refine G_q rfl (op_move (av := pA b 0) rfl ?_)
  refine G_q rfl (op_nilCheck rfl ?_)
  refine G_q rfl (op_fieldAddr (o := 5) (by kernel_rfl) rfl ?_)
  refine G_r rfl (op_load_box1 (a := .exact (.int .i64 D.fl)) (by kernel_rfl) rfl rfl ?_)
  refine G_q rfl (op_gtr rfl rfl ?_)
  refine G_nil ?_
  refine kC_normal ?_
  refine k_cond_d (p := 0 < D.fl) rfl (fun hc1 => ?_) (fun hc1 => ?_)
  · refine k_seq ?_
    refine k_reg .free hmixP (by kernel_rfl) ?_
    refine G_q rfl (op_move (av := pA b 0) rfl ?_)
    refine G_q rfl (op_nilCheck rfl ?_)
    refine G_q rfl (op_fieldAddr (o := 5) (by kernel_rfl) rfl ?_)
    refine G_r rfl (op_load_box1 (a := .exact (.int .i64 D.fl)) (by kernel_rfl) rfl rfl ?_)
    refine G_q rfl (op_sub rfl rfl rfl ?_)
    refine G_q rfl (op_nilCheck rfl ?_)
    refine G_q rfl (op_fieldAddr (o := 5) (by kernel_rfl) rfl ?_)
    refine G_l rfl (op_store_box (c' := [.exact (.int .i64 (i64 (D.fl - 1)))]) (c3 := [.exact (.int .i64 D.cap), .exact (.map (some nb)), .exact (.map (some db)), .exact pv, .exact (.int .i64 (i64 (D.wr + 1))), .exact (.int .i64 (i64 (D.fl - 1))), .exact (.bool D.dn)]) rfl rfl CellsOf.int (LEs.cons (AV.le_eq rfl) LEs.nil) (OneC.int OneC.nil) (by kernel_rfl) (Nat.le_of_ble_eq_true rfl) rfl ?_)
    refine G_nil ?_
    refine kC_normal ?_
    refine k_reg .free hmixP (by kernel_rfl) ?_
    refine G_q rfl (op_move (av := pA b 0) rfl ?_)
    refine G_q rfl (op_move (av := pA b 0) rfl ?_)
    refine G_q rfl (op_nilCheck rfl ?_)
    refine G_q rfl (op_fieldAddr (o := 5) (by kernel_rfl) rfl ?_)
    refine G_r rfl (op_load_box1 (a := .exact (.int .i64 (i64 (D.fl - 1)))) (by kernel_rfl) rfl rfl ?_)
    refine G_q rfl (op_eql rfl rfl ?_)
    refine G_q rfl (op_nilCheck rfl ?_)
    refine G_q rfl (op_fieldAddr (o := 6) (by kernel_rfl) rfl ?_)
    refine G_l rfl (op_store_box (c' := [.exact (.bool (decide ((i64 (D.fl - 1)) = 0)))]) (c3 := [.exact (.int .i64 D.cap), .exact (.map (some nb)), .exact (.map (some db)), .exact pv, .exact (.int .i64 (i64 (D.wr + 1))), .exact (.int .i64 (i64 (D.fl - 1))), .exact (.bool (decide ((i64 (D.fl - 1)) = 0)))]) rfl rfl CellsOf.bool (LEs.cons (AV.le_eq rfl) LEs.nil) (OneC.bool OneC.nil) (by kernel_rfl) (Nat.le_of_ble_eq_true rfl) rfl ?_)
    refine G_nil ?_
    refine kC_normal ?_
    refine k_seq ?_
    refine k_reg .free hmixP (by kernel_rfl) ?_
    refine G_q rfl (op_move (av := pA b 0) rfl ?_)
    refine G_q rfl (op_nilCheck rfl ?_)
    refine G_q rfl (op_fieldAddr (o := 6) (by kernel_rfl) rfl ?_)
    refine G_r rfl (op_load_box1 (a := .exact (.bool (decide ((i64 (D.fl - 1)) = 0)))) (by kernel_rfl) rfl rfl ?_)
    refine G_q rfl (op_not_d rfl ?_)
    refine G_q rfl (op_assign (av := .exact (.bool (decide (¬ ((i64 (D.fl - 1)) = 0))))) rfl ?_)
    refine G_nil ?_
    refine kC_normal ?_
    refine k_ret ?_
    refine kP_any (endN (af' := (AF.put AF0 (some 2) (.exact (.bool (decide (¬ ((i64 (D.fl - 1)) = 0))))))) (σ' := [boxI 81 b [.exact (.int .i64 D.cap), .exact (.map (some nb)), .exact (.map (some db)), .exact pv, .exact (.int .i64 (i64 (D.wr + 1))), .exact (.int .i64 (i64 (D.fl - 1))), .exact (.bool (decide ((i64 (D.fl - 1)) = 0)))]]) _ rfl (Sub.of_le (AF.le_put (AV.le_eq rfl) (AF.le_top _))) ?_)
    exact ⟨by simp [dkWr, *]; rfl, by simp [dkWr, *]⟩
  · refine k_skip ?_
    refine kC_normal ?_
    refine k_seq ?_
    refine k_reg .free hmixP (by kernel_rfl) ?_
    refine G_q rfl (op_move (av := pA b 0) rfl ?_)
    refine G_q rfl (op_nilCheck rfl ?_)
    refine G_q rfl (op_fieldAddr (o := 6) (by kernel_rfl) rfl ?_)
    refine G_r rfl (op_load_box1 (a := .exact (.bool D.dn)) (by kernel_rfl) rfl rfl ?_)
    refine G_q rfl (op_not rfl ?_)
    refine G_q rfl (op_assign (av := .exact (.bool !D.dn)) rfl ?_)
    refine G_nil ?_
    refine kC_normal ?_
    refine k_ret ?_
    refine kP_any (endN (af' := (AF.put AF0 (some 2) (.exact (.bool !D.dn)))) (σ' := [boxI 81 b [.exact (.int .i64 D.cap), .exact (.map (some nb)), .exact (.map (some db)), .exact pv, .exact (.int .i64 (i64 (D.wr + 1))), .exact (.int .i64 D.fl), .exact (.bool D.dn)]]) _ rfl (Sub.of_le (AF.le_put (AV.le_eq rfl) (AF.le_top _))) ?_)
    exact ⟨by simp [dkWr, *]; rfl, by simp [dkWr, *]⟩
set_option maxHeartbeats 4000000 in
theorem dk_perform {hb : List Nat} {nb : Nat} (f s : List UInt8) (i : Int) (l : List (List UInt8 × Int)) : Fun Try.prog 71 [.agg [.exact (.string (bs f)), .exact (.string (bs s)), refA hb i], .exact (.map (some nb))] [dM hb nb l] (fun a σ => a = .tup [] ∧ σ = [dM hb nb (dkPf (f, s, i) l)]) := by
  refine fun_of_awp Try.func71 rfl Try.ntmps71 (by simp) rfl (res0 rfl) fun E hE => k_end ?_
  refine k_seq ?_
  refine k_reg .free hmixP (by kernel_rfl) ?_
  refine G_q rfl (op_box (c := [.exact (.string (bs f)), .exact (.string (bs s)), refA hb i]) rfl CellsOf.agg ?_)
  refine G_nil ?_
  refine kC_normal ?_
  refine k_seq ?_
  refine k_seq ?_
  refine k_reg .free hmixP (by kernel_rfl) ?_
  refine G_q rfl (op_fieldAddr_ptr (o := 0) (c' := [.exact (.string (bs f)), .exact (.string (bs s)), refA hb i]) (by kernel_rfl) rfl rfl ?_)
  refine G_q rfl (op_load1p (a := .exact (.string (bs f))) (by kernel_rfl) rfl rfl ?_)
  refine G_q rfl (op_neqS rfl rfl ?_)
  refine G_nil ?_
  refine kC_normal ?_
  refine k_cond_d (p := ¬ f = []) rfl (fun hc1 => ?_) (fun hc1 => ?_)
  · refine k_reg .free hmixP (by kernel_rfl) ?_
    refine G_q rfl (op_move (av := .exact (.map (some nb))) rfl ?_)
    refine G_q rfl (op_fieldAddr_ptr (o := 0) (c' := [.exact (.string (bs f)), .exact (.string (bs s)), refA hb i]) (by kernel_rfl) rfl rfl ?_)
    refine G_q rfl (op_load1p (a := .exact (.string (bs f))) (by kernel_rfl) rfl rfl ?_)
    refine G_l rfl (op_mdel (keyOk_str Try.underlying9) (fun _ _ _ => trivial) Try.underlying78 rfl (keyAV_str rfl) ?_)
    refine G_nil ?_
    refine kC_normal ?_
    refine k_seq ?_
    refine k_reg .free hmixP (by kernel_rfl) ?_
    refine G_q rfl (op_fieldAddr_ptr (o := 2) (c' := [refA hb i]) (by kernel_rfl) rfl rfl ?_)
    refine G_q rfl (op_load1p (a := refA hb i) (by kernel_rfl) rfl rfl ?_)
    refine G_q rfl (op_eqnil_ref (t := 87) (by kernel_rfl) (by kernel_rfl) rfl rfl ?_)
    refine G_nil ?_
    refine kC_normal ?_
    refine k_cond_d (p := i = -1) rfl (fun hc2 => ?_) (fun hc2 => ?_)
    · refine k_reg .free hmixP (by kernel_rfl) ?_
      refine G_q rfl (op_move (av := .exact (.map (some nb))) rfl ?_)
      refine G_q rfl (op_fieldAddr_ptr (o := 1) (c' := [.exact (.string (bs s)), refA hb i]) (by kernel_rfl) rfl rfl ?_)
      refine G_q rfl (op_load1p (a := .exact (.string (bs s))) (by kernel_rfl) rfl rfl ?_)
      refine G_l rfl (op_mdel (keyOk_str Try.underlying9) (fun _ _ _ => trivial) Try.underlying78 rfl (keyAV_str rfl) ?_)
      refine G_nil ?_
      refine kP_any (endNn (af' := AF0) (σ' := [dM hb nb (delL (delL l f) s)]) _ rfl (Sub.of_le (AF.le_top _)) ?_)
      exact ⟨rfl, by first | (simp [dkPf, *]; done) | (simp_all [dkPf]; done)⟩
    · refine k_reg .free hmixP (by kernel_rfl) ?_
      refine G_q rfl (op_move (av := .exact (.map (some nb))) rfl ?_)
      refine G_q rfl (op_fieldAddr_ptr (o := 1) (c' := [.exact (.string (bs s)), refA hb i]) (by kernel_rfl) rfl rfl ?_)
      refine G_q rfl (op_load1p (a := .exact (.string (bs s))) (by kernel_rfl) rfl rfl ?_)
      refine G_q rfl (op_fieldAddr_ptr (o := 2) (c' := [refA hb i]) (by kernel_rfl) rfl rfl ?_)
      refine G_q rfl (op_load1p (a := refA hb i) (by kernel_rfl) rfl rfl ?_)
      refine G_l rfl (op_mput (z := i) (keyOk_str Try.underlying9) (fun _ _ _ => trivial) Try.underlying78 rfl (keyAV_str rfl) (AV.le_eq rfl) ?_)
      refine G_nil ?_
      refine kP_any (endNn (af' := AF0) (σ' := [dM hb nb (putL (delL l f) s i)]) _ rfl (Sub.of_le (AF.le_top _)) ?_)
      exact ⟨rfl, by first | (simp [dkPf, *]; done) | (simp_all [dkPf]; done)⟩
  · refine k_skip ?_
    refine kC_normal ?_
    refine k_seq ?_
    refine k_reg .free hmixP (by kernel_rfl) ?_
    refine G_q rfl (op_fieldAddr_ptr (o := 2) (c' := [refA hb i]) (by kernel_rfl) rfl rfl ?_)
    refine G_q rfl (op_load1p (a := refA hb i) (by kernel_rfl) rfl rfl ?_)
    refine G_q rfl (op_eqnil_ref (t := 87) (by kernel_rfl) (by kernel_rfl) rfl rfl ?_)
    refine G_nil ?_
    refine kC_normal ?_
    refine k_cond_d (p := i = -1) rfl (fun hc3 => ?_) (fun hc3 => ?_)
    · refine k_reg .free hmixP (by kernel_rfl) ?_
      refine G_q rfl (op_move (av := .exact (.map (some nb))) rfl ?_)
      refine G_q rfl (op_fieldAddr_ptr (o := 1) (c' := [.exact (.string (bs s)), refA hb i]) (by kernel_rfl) rfl rfl ?_)
      refine G_q rfl (op_load1p (a := .exact (.string (bs s))) (by kernel_rfl) rfl rfl ?_)
      refine G_l rfl (op_mdel (keyOk_str Try.underlying9) (fun _ _ _ => trivial) Try.underlying78 rfl (keyAV_str rfl) ?_)
      refine G_nil ?_
      refine kP_any (endNn (af' := AF0) (σ' := [dM hb nb (delL l s)]) _ rfl (Sub.of_le (AF.le_top _)) ?_)
      exact ⟨rfl, by first | (simp [dkPf, *]; done) | (simp_all [dkPf]; done)⟩
    · refine k_reg .free hmixP (by kernel_rfl) ?_
      refine G_q rfl (op_move (av := .exact (.map (some nb))) rfl ?_)
      refine G_q rfl (op_fieldAddr_ptr (o := 1) (c' := [.exact (.string (bs s)), refA hb i]) (by kernel_rfl) rfl rfl ?_)
      refine G_q rfl (op_load1p (a := .exact (.string (bs s))) (by kernel_rfl) rfl rfl ?_)
      refine G_q rfl (op_fieldAddr_ptr (o := 2) (c' := [refA hb i]) (by kernel_rfl) rfl rfl ?_)
      refine G_q rfl (op_load1p (a := refA hb i) (by kernel_rfl) rfl rfl ?_)
      refine G_l rfl (op_mput (z := i) (keyOk_str Try.underlying9) (fun _ _ _ => trivial) Try.underlying78 rfl (keyAV_str rfl) (AV.le_eq rfl) ?_)
      refine G_nil ?_
      refine kP_any (endNn (af' := AF0) (σ' := [dM hb nb (putL l s i)]) _ rfl (Sub.of_le (AF.le_top _)) ?_)
      exact ⟨rfl, by first | (simp [dkPf, *]; done) | (simp_all [dkPf]; done)⟩
set_option maxHeartbeats 4000000 in
theorem dk_change {hb : List Nat} {b nb db : Nat} {pv : Value} (f s : List UInt8) (i : Int) (D : Dk) (hp : D.pend.length < 137438953472) : Fun Try.prog 57 [pA b 0, .agg [.exact (.string (bs f)), .exact (.string (bs s)), refA hb i]] [dB b nb db pv D, dM hb nb D.names, dP hb pv D.pend] (fun a σ => ∃ pv', a = .tup [] ∧ σ = [dB b nb db pv' D, dM hb nb (dkPf (f, s, i) D.names), dP hb pv' (D.pend ++ [(f, s, i)])]) := by
  refine fun_of_awp Try.func57 rfl Try.ntmps57 (by simp) rfl (res0 rfl) fun E hE => k_end ?_
  refine k_seq ?_
  refine k_reg .free hmixP (by kernel_rfl) ?_
  refine G_q rfl (op_box (c := [.exact (.string (bs f)), .exact (.string (bs s)), refA hb i]) rfl CellsOf.agg ?_)
  refine G_nil ?_
  refine kC_normal ?_
  refine k_seq ?_
  refine k_plan [] [(0, 0), (0, 1), (0, 2), (0, 3), (1, 4), (2, 5)] hmixP (by kernel_rfl) ?_
  refine P_q no34_0 rfl (op_loadN rfl (by kernel_rfl) ?_)
  refine P_q no34_0 rfl (op_move (av := pA b 0) rfl ?_)
  refine P_q no34_0 rfl (op_nilCheck rfl ?_)
  refine P_q no34_0 rfl (op_fieldAddr (o := 1) (by kernel_rfl) rfl ?_)
  refine P_r rfl (op_load_box1 (a := .exact (.map (some nb))) (by kernel_rfl) rfl rfl ?_)
  refine P_l rfl (opB_f1 (op_fun_1_0_1 (dk_perform f s i _) Try.func71 (by kernel_rfl) (LEs.cons (AV.le_eq rfl) (LEs.cons (AV.le_eq rfl) LEs.nil)) ?_))
  refine P_nil ?_
  refine kC_normal ?_
  refine k_plan [] [(0, 0), (0, 1), (0, 2), (0, 3), (1, 4), (0, 5), (0, 6), (2, 7), (0, 8), (0, 9), (2, 10)] hmixP (by kernel_rfl) ?_
  refine P_q no34_0 rfl (op_move (av := pA b 0) rfl ?_)
  refine P_q no34_0 rfl (op_move (av := pA b 0) rfl ?_)
  refine P_q no34_0 rfl (op_nilCheck rfl ?_)
  refine P_q no34_0 rfl (op_fieldAddr (o := 3) (by kernel_rfl) rfl ?_)
  refine P_r rfl (opR_f1 (op_load_box1 (a := .exact pv) (by kernel_rfl) rfl rfl ?_))
  refine P_q no34_0 rfl (op_loadN rfl (by kernel_rfl) ?_)
  refine P_q no34_0 rfl (op_litT (n := 3) (enc := opE hb) [(f, s, i)] (CellsAll.cons rfl CellsOf.agg CellsAll.nil) rfl (by kernel_rfl) (LEss.cons (LEs.cons (AV.le_eq rfl) (LEs.cons (AV.le_eq rfl) (LEs.cons (AV.le_eq rfl) LEs.nil))) LEss.nil) ?_)
  refine P_l rfl (opB_f2 (op_appT (by kernel_rfl) rfl rfl (oc_opE hb) (by show _ ≤ 137438953472; simp; omega) (fun pv' => ?_)))
  refine P_q no34_0 rfl (op_nilCheck rfl ?_)
  refine P_q no34_0 rfl (op_fieldAddr (o := 3) (by kernel_rfl) rfl ?_)
  refine P_l rfl (opB_sl (List.Mem.head _) (fun hsl => opB_f2 (op_store_box (c' := [.exact pv']) (c3 := [.exact (.int .i64 D.cap), .exact (.map (some nb)), .exact (.map (some db)), .exact pv', .exact (.int .i64 D.wr), .exact (.int .i64 D.fl), .exact (.bool D.dn)]) rfl rfl (CellsOf.sl hsl) (LEs.cons (AV.le_eq rfl) LEs.nil) (OneC.sl hsl OneC.nil) (by kernel_rfl) (Nat.le_of_ble_eq_true rfl) rfl ?_)))
  refine P_nil ?_
  refine kP_any (endNn (af' := AF0) (σ' := [boxI 81 b [.exact (.int .i64 D.cap), .exact (.map (some nb)), .exact (.map (some db)), .exact pv', .exact (.int .i64 D.wr), .exact (.int .i64 D.fl), .exact (.bool D.dn)], dM hb nb (dkPf (f, s, i) D.names), dP hb pv' (D.pend ++ [(f, s, i)])]) _ rfl (SubU.to (SubU.trans SubU.f1 (SubU.trans SubU.f2 (SubU.trans SubU.f2 (SubU.of_le (AF.le_top _)))))) ?_)
  exact ⟨pv', rfl, rfl⟩
set_option maxHeartbeats 4000000 in
theorem dk_used {hb : List Nat} {b nb db : Nat} {pv : Value} {Z : List DkZ} (D : Dk) (hZ : D.files = Z.map (·.2)) (u : Int) (h : m_dkUsed D = some u) : Fun Try.prog 55 [pA b 0] [dB b nb db pv D, dM hb nb D.names, dH hb Z, dVs Z] (fun a s => a = .exact (.int .i64 u) ∧ s = [dB b nb db pv D, dM hb nb D.names, dH hb Z, dVs Z]) := by
  unfold m_dkUsed at h
  refine fun_of_awp Try.func55 rfl Try.ntmps55 (by simp) rfl (res1 rfl) fun E hE => k_end ?_
  refine k_seq ?_
  refine k_reg .free hmixP (by kernel_rfl) ?_
  refine G_q rfl (op_assign (av := .exact (.int .i64 0)) rfl ?_)
  refine G_nil ?_
  refine kC_normal ?_
  refine k_seq ?_
  refine k_reg .free hmixP (by kernel_rfl) ?_
  refine G_q rfl (op_assign (av := .exact (.int .i64 0)) rfl ?_)
  refine G_nil ?_
  refine kC_normal ?_
  refine k_seq ?_
  refine k_seq ?_
  refine k_reg .free hmixP (by kernel_rfl) ?_
  refine G_q rfl (op_move (av := pA b 0) rfl ?_)
  refine G_q rfl (op_nilCheck rfl ?_)
  refine G_q rfl (op_fieldAddr (o := 1) (by kernel_rfl) rfl ?_)
  refine G_r rfl (op_load_box1 (a := .exact (.map (some nb))) (by kernel_rfl) rfl rfl ?_)
  refine G_l rfl (opB_f1 (op_mrange Try.underlying78 rfl (fun r => ?_)))
  refine G_nil ?_
  refine kC_normal ?_
  refine k_block ?_
  refine k_range1_1 (V := (fun _ => True)) (kv := (fun k : List UInt8 => .string (bs k))) (vv := (fun x : Int => refA hb x)) (b := nb) (r := r) h (fun (n : Int) (_ : Unit) => (AF.put (AF.put AF0 (some 3) (.exact (.int .i64 n))) (some 10) (pA r 0))) (fun (n : Int) (_ : Unit) => [dB b nb db pv D, dH hb Z, dVs Z]) () ?_ (fun n _ left cur Q hK hB => ?_)
  · exact Sub.of_le (AF.le_put (AV.le_eq rfl) (AF.le_put (AV.le_eq rfl) (AF.le_top _)))
  · refine k_seq ?_
    refine k_reg .free hmixP (by kernel_rfl) ?_
    refine G_l rfl (op_mnext rfl (fun hl => ?_) (fun A1 y B1 hl => ?_))
    · replace h := hK hl
      have hu : n = u := Option.some.inj h
      subst hu
      refine G_q rfl (op_extract (av := .exact (.bool false)) rfl rfl ?_)
      refine G_nil ?_
      refine kC_normal ?_
      refine k_seq ?_
      refine k_cond_f rfl ?_
      refine k_exit ?_
      refine kC_exit ?_
      refine kI_exit ?_
      refine kB_exit ?_
      refine kC_normal ?_
      refine awp_sub (SubU.to SubU.mDone) ?_
      refine k_seq ?_
      refine k_reg .free hmixP (by kernel_rfl) ?_
      refine G_q rfl (op_move (av := .exact (.int .i64 n)) rfl ?_)
      refine G_q rfl (op_assign (av := .exact (.int .i64 n)) rfl ?_)
      refine G_nil ?_
      refine kC_normal ?_
      refine k_ret ?_
      exact kP_any (endN (af' := (AF.put AF0 (some 2) (.exact (.int .i64 n)))) (σ' := [dB b nb db pv D, dM hb nb D.names, dH hb Z, dVs Z]) _ rfl (SubU.to (SubU.trans SubU.f1 (SubU.of_le (AF.le_put (AV.le_eq rfl) (AF.le_top _))))) ⟨rfl, rfl⟩)
    · obtain ⟨x', h, hj⟩ := hB A1 y B1 hl
      unfold m_dkUsedR at h
      obtain ⟨n1, h⟩ := need_some h
      rw [hZ, List.length_map] at n1
      have hx := Option.some.inj h
      rw [hZ, gi_map n1.1 n1.2] at hx
      refine G_q rfl (op_extract (av := .exact (.bool true)) rfl rfl ?_)
      refine G_nil ?_
      refine kC_normal ?_
      refine k_seq ?_
      refine k_cond_t rfl ?_
      refine k_skip ?_
      refine kC_normal ?_
      refine k_block ?_
      refine k_seq ?_
      refine k_reg .free hmixP (by kernel_rfl) ?_
      refine G_r rfl (op_mentry rfl ?_)
      refine G_q rfl (op_extract (av := refA hb y.2) rfl rfl ?_)
      refine G_q rfl (op_assign (av := refA hb y.2) rfl ?_)
      refine G_nil ?_
      refine kC_normal ?_
      refine k_reg .free hmixP (by kernel_rfl) ?_
      refine G_q rfl (op_move (av := .exact (.int .i64 n)) rfl ?_)
      refine G_q rfl (op_move (av := refA hb y.2) rfl ?_)
      refine G_q rfl (op_nilC_ref rfl (by omega) ?_)
      refine G_q rfl (op_field_hpt (o := 0) (by kernel_rfl) rfl ?_)
      refine G_r rfl (op_load_hpt (t := 87) (enc := fEnc) (H := Z) (a := .exact (gi Z y.2).1) (List.Mem.tail _ (List.Mem.tail _ (List.Mem.head _))) (by kernel_rfl) rfl rfl ?_)
      refine G_r rfl (op_len_dVs (i := y.2) (Z := Z) (List.Mem.tail _ (List.Mem.tail _ (List.Mem.tail _ (List.Mem.head _)))) (by kernel_rfl) n1.1 n1.2 rfl ?_)
      refine G_q rfl (op_add rfl rfl rfl ?_)
      refine G_q rfl (op_assign (av := .exact (.int .i64 (i64 (n + ((gi Z y.2).2.1.length : Int))))) rfl ?_)
      refine G_nil ?_
      refine kB_normal ?_
      subst hx
      exact hj _ _ () (Sub.of_le (AF.le_put (AV.le_eq rfl) (AF.le_put (AV.le_eq rfl) (AF.le_top _))))
set_option maxHeartbeats 4000000 in
theorem dk_valid (s : List UInt8) : Pure Try.prog 54 [.exact (.string (bs s))] (.exact (.bool (decide (1 ≤ s.length ∧ s.length ≤ 32)))) := by
  refine Pure.ofFun (fun_of_awp Try.func54 rfl Try.ntmps54 (by simp) rfl (res1 rfl) fun E hE => k_end ?_)
  refine k_seq ?_
  refine k_reg .free hmixP (by kernel_rfl) ?_
  refine G_q rfl (op_assign (av := .exact (.bool false)) rfl ?_)
  refine G_nil ?_
  refine kC_normal ?_
  refine k_seq ?_
  refine k_reg .free hmixP (by kernel_rfl) ?_
  refine G_q rfl (op_move (av := .exact (.string (bs s))) rfl ?_)
  refine G_q rfl (op_lenS (by kernel_rfl) rfl ?_)
  refine G_q rfl (op_geq rfl rfl ?_)
  refine G_q rfl (op_move (av := .exact (.bool (decide (1 ≤ (List.length s : Int))))) rfl ?_)
  refine G_split (p := 1 ≤ (List.length s : Int)) 6 rfl (fun hc1 => ?_) (fun hc1 => ?_)
  · refine Gy_q rfl rfl rfl (op_move (av := .exact (.string (bs s))) rfl ?_)
    refine Gy_q rfl rfl rfl (op_lenS (by kernel_rfl) rfl ?_)
    refine Gy_q rfl rfl rfl (op_leq rfl rfl ?_)
    refine G_q rfl (op_pick_t rfl (av := .exact (.bool (decide ((List.length s : Int) ≤ 32)))) rfl ?_)
    refine G_q rfl (op_assign (av := .exact (.bool (decide ((List.length s : Int) ≤ 32)))) rfl ?_)
    refine G_nil ?_
    refine kC_normal ?_
    refine k_ret ?_
    refine kP_any (endN (af' := (AF.put AF0 (some 2) (.exact (.bool (decide ((List.length s : Int) ≤ 32)))))) (σ' := []) _ rfl (Sub.of_le (AF.le_put (AV.le_eq rfl) (AF.le_top _))) ?_)
    refine ⟨?_, rfl⟩
    show AV.exact _ = AV.exact _
    congr 2
    exact decide_eq_decide.2 (by omega)
  · refine G_n rfl rfl ?_
    refine G_n rfl rfl ?_
    refine G_n rfl rfl ?_
    refine G_q rfl (op_pick_f rfl (av := .exact (.bool false)) rfl ?_)
    refine G_q rfl (op_assign (av := .exact (.bool false)) rfl ?_)
    refine G_nil ?_
    refine kC_normal ?_
    refine k_ret ?_
    refine kP_any (endN (af' := (AF.put AF0 (some 2) (.exact (.bool false)))) (σ' := []) _ rfl (Sub.of_le (AF.le_put (AV.le_eq rfl) (AF.le_top _))) ?_)
    refine ⟨?_, rfl⟩
    rw [decide_eq_false (by omega : ¬ (1 ≤ s.length ∧ s.length ≤ 32))]; rfl
theorem dk_ixNil : Pure Try.prog 102 [.exact (.slice none 0 0), .top] (.exact (.int .i64 (-1))) := by
  refine Pure.ofFun (fun_of_awp Try.func102 rfl Try.ntmps102 (by simp) rfl (res1 rfl) fun E hE => k_end ?_)
  refine k_seq ?_
  refine k_reg .free hmixP (by kernel_rfl) ?_
  refine G_q rfl (op_assign (av := .exact (.int .i64 0)) rfl ?_)
  refine G_nil ?_
  refine kC_normal ?_
  refine k_seq ?_
  refine k_seq ?_
  refine k_reg .free hmixP (by kernel_rfl) ?_
  refine G_q rfl (op_move (av := .exact (.slice none 0 0)) rfl ?_)
  refine G_q rfl (op_len_slice (by kernel_rfl) rfl ?_)
  refine G_q rfl (op_move (av := .exact (.int .i64 0)) rfl ?_)
  refine G_nil ?_
  refine kC_normal ?_
  refine k_block ?_
  refine k_loop (fun (_ : Unit) => (AF.put (AF.put AF0 (some 7) (.exact (.int .i64 0))) (some 8) (.exact (.int .i64 0)))) (fun _ => []) (fun _ => True) (fun _ => 0) () trivial (Sub.of_le (AF.le_put (AV.le_eq rfl) (AF.le_put (AV.le_eq rfl) (AF.le_top _)))) (fun _ _ => ?_)
  refine k_seq ?_
  refine k_reg .free hmixP (by kernel_rfl) ?_
  refine G_q rfl (op_lss rfl rfl ?_)
  refine G_nil ?_
  refine kC_normal ?_
  refine k_seq ?_
  refine k_cond_d (p := (0 : Int) < 0) rfl (fun hc => absurd hc (by omega)) (fun _ => ?_)
  refine k_exit ?_
  refine kC_exit ?_
  refine kI_exit ?_
  refine kB_exit ?_
  refine kC_normal ?_
  refine k_seq ?_
  refine k_reg .free hmixP (by kernel_rfl) ?_
  refine G_q rfl (op_assign (av := .exact (.int .i64 (-1))) rfl ?_)
  refine G_nil ?_
  refine kC_normal ?_
  refine k_ret ?_
  exact kP_any (endN (af' := (AF.put AF0 (some 4) (.exact (.int .i64 (-1))))) (σ' := []) _ rfl (Sub.of_le (AF.le_put (AV.le_eq rfl) (AF.le_top _))) ⟨rfl, rfl⟩)
theorem dk_cfNil : Pure Try.prog 85 [.exact (.slice none 0 0), .top] (.exact (.bool false)) := by
  refine Pure.ofFun (fun_of_awp Try.func85 rfl Try.ntmps85 (by simp) rfl (res1 rfl) fun E hE => k_end ?_)
  refine k_seq ?_
  refine k_reg .free hmixP (by kernel_rfl) ?_
  refine G_q rfl (op_assign (av := .exact (.bool false)) rfl ?_)
  refine G_nil ?_
  refine kC_normal ?_
  refine k_seq ?_
  refine k_reg .free hmixP (by kernel_rfl) ?_
  refine G_q rfl (op_move (av := .exact (.slice none 0 0)) rfl ?_)
  refine G_q rfl (op_move (av := .top) rfl ?_)
  refine G_q rfl (op_pure dk_ixNil Try.func102 (by kernel_rfl) (LEs.cons (AV.le_eq rfl) (LEs.cons (AV.le_eq rfl) LEs.nil)) ?_)
  refine G_q rfl (op_geq rfl rfl ?_)
  refine G_q rfl (op_assign (av := .exact (.bool (decide ((0 : Int) ≤ -1)))) rfl ?_)
  refine G_nil ?_
  refine kC_normal ?_
  refine k_ret ?_
  exact kP_any (endN (af' := (AF.put AF0 (some 4) (.exact (.bool (decide ((0 : Int) ≤ -1)))))) (σ' := []) _ rfl (Sub.of_le (AF.le_put (AV.le_eq rfl) (AF.le_top _))) ⟨rfl, rfl⟩)
set_option maxHeartbeats 4000000 in
theorem dk_check {hb : List Nat} {b nb db : Nat} {pv : Value} (s : List UInt8) (D : Dk) : Fun Try.prog 52 [pA b 0, .exact (.string (bs s)), .exact (.slice none 0 0)] [dB b nb db pv D, dM hb nb D.names] (fun a σ => a = .exact (.int .i64 (dkChk D s)) ∧ σ = [dB b nb db pv D, dM hb nb D.names]) := by
  refine fun_of_awp Try.func52 rfl Try.ntmps52 (by simp) rfl (res1 rfl) fun E hE => k_end ?_
  refine k_seq ?_
  refine k_reg .free hmixP (by kernel_rfl) ?_
  refine G_q rfl (op_assign (av := .exact (.int .i64 0)) rfl ?_)
  refine G_nil ?_
  refine kC_normal ?_
  refine k_seq ?_
  refine k_block ?_
  refine k_seq ?_
  refine k_reg .free hmixP (by kernel_rfl) ?_
  refine G_q rfl (op_move (av := pA b 0) rfl ?_)
  refine G_q rfl (op_nilCheck rfl ?_)
  refine G_q rfl (op_fieldAddr (o := 6) (by kernel_rfl) rfl ?_)
  refine G_r rfl (op_load_box1 (a := .exact (.bool D.dn)) (by kernel_rfl) rfl rfl ?_)
  refine G_q rfl (op_assign (av := .exact (.bool D.dn)) rfl ?_)
  refine G_nil ?_
  refine kC_normal ?_
  refine k_cond_b (c := D.dn) rfl (fun hc1 => ?_) (fun hc1 => ?_)
  · refine k_seq ?_
    refine k_reg .free hmixP (by kernel_rfl) ?_
    refine G_q rfl (op_assign (av := .exact (.int .i64 25)) rfl ?_)
    refine G_nil ?_
    refine kC_normal ?_
    refine k_ret ?_
    refine kB_ret ?_
    refine kC_ret ?_
    refine kP_any (endN (af' := (AF.put AF0 (some 6) (.exact (.int .i64 25)))) (σ' := [boxI 81 b [.exact (.int .i64 D.cap), .exact (.map (some nb)), .exact (.map (some db)), .exact pv, .exact (.int .i64 D.wr), .exact (.int .i64 D.fl), .exact (.bool D.dn)], dM hb nb D.names]) _ rfl (Sub.of_le (AF.le_put (AV.le_eq rfl) (AF.le_top _))) ?_)
    refine ⟨?_, rfl⟩
    have e : dkChk D s = 25 := by unfold dkChk; simp_all
    rw [e]; rfl
  · refine k_seq ?_
    refine k_reg .free hmixP (by kernel_rfl) ?_
    refine G_q rfl (op_move (av := .exact (.string (bs s))) rfl ?_)
    refine G_q rfl (op_pure (dk_valid s) Try.func54 (by kernel_rfl) (LEs.cons (AV.le_eq rfl) LEs.nil) ?_)
    refine G_q rfl (op_not_d rfl ?_)
    refine G_q rfl (op_move (av := .exact (.bool (decide (¬ (1 ≤ s.length ∧ s.length ≤ 32))))) rfl ?_)
    refine G_split (p := ¬ (1 ≤ s.length ∧ s.length ≤ 32)) 16 rfl (fun hc2 => ?_) (fun hc2 => ?_)
    · refine G_n rfl rfl ?_
      refine G_n rfl rfl ?_
      refine G_q rfl (op_pick_t rfl (av := .exact (.bool true)) rfl ?_)
      refine G_q rfl (op_assign (av := .exact (.bool true)) rfl ?_)
      refine G_nil ?_
      refine kC_normal ?_
      refine k_cond_t rfl ?_
      refine k_seq ?_
      refine k_reg .free hmixP (by kernel_rfl) ?_
      refine G_q rfl (op_assign (av := .exact (.int .i64 1)) rfl ?_)
      refine G_nil ?_
      refine kC_normal ?_
      refine k_ret ?_
      refine kB_ret ?_
      refine kC_ret ?_
      refine kP_any (endN (af' := (AF.put AF0 (some 6) (.exact (.int .i64 1)))) (σ' := [boxI 81 b [.exact (.int .i64 D.cap), .exact (.map (some nb)), .exact (.map (some db)), .exact pv, .exact (.int .i64 D.wr), .exact (.int .i64 D.fl), .exact (.bool D.dn)], dM hb nb D.names]) _ rfl (Sub.of_le (AF.le_put (AV.le_eq rfl) (AF.le_top _))) ?_)
      refine ⟨?_, rfl⟩
      have e : dkChk D s = 1 := by unfold dkChk; simp_all
      rw [e]; rfl
    · refine Gy_q rfl rfl rfl (op_move (av := .exact (.slice none 0 0)) rfl ?_)
      refine Gy_q rfl rfl rfl (op_pure dk_cfNil Try.func85 (by kernel_rfl) (LEs.cons (AV.le_eq rfl) (LEs.cons (dk_letop _) LEs.nil)) ?_)
      refine G_q rfl (op_pick_f rfl (av := .exact (.bool false)) rfl ?_)
      refine G_q rfl (op_assign (av := .exact (.bool false)) rfl ?_)
      refine G_nil ?_
      refine kC_normal ?_
      refine k_cond_f rfl ?_
      refine k_seq ?_
      refine k_reg .free hmixP (by kernel_rfl) ?_
      refine G_q rfl (op_move (av := pA b 0) rfl ?_)
      refine G_q rfl (op_nilCheck rfl ?_)
      refine G_q rfl (op_fieldAddr (o := 1) (by kernel_rfl) rfl ?_)
      refine G_r rfl (op_load_box1 (a := .exact (.map (some nb))) (by kernel_rfl) rfl rfl ?_)
      refine G_q rfl (op_move (av := .exact (.string (bs s))) rfl ?_)
      refine G_r rfl (op_mlook (z := ((-1) : Int)) (List.Mem.tail _ (List.Mem.head _)) (keyOk_str Try.underlying9) (fun _ _ _ => trivial) Try.underlying78 (fun _ w => ⟨_, Try.zeroValue88 w, zp_ref⟩) rfl (keyAV_str rfl) ?_)
      refine G_q rfl (op_eqnil_ref (t := 87) (by kernel_rfl) (by kernel_rfl) rfl rfl ?_)
      refine G_q rfl (op_assign (av := .exact (.bool (decide (((lookL D.names s).getD (-1)) = -1)))) rfl ?_)
      refine G_nil ?_
      refine kC_normal ?_
      refine k_cond_d (p := ((lookL D.names s).getD (-1)) = -1) rfl (fun hc5 => ?_) (fun hc5 => ?_)
      · refine k_seq ?_
        refine k_reg .free hmixP (by kernel_rfl) ?_
        refine G_q rfl (op_assign (av := .exact (.int .i64 21)) rfl ?_)
        refine G_nil ?_
        refine kC_normal ?_
        refine k_ret ?_
        refine kB_ret ?_
        refine kC_ret ?_
        refine kP_any (endN (af' := (AF.put AF0 (some 6) (.exact (.int .i64 21)))) (σ' := [boxI 81 b [.exact (.int .i64 D.cap), .exact (.map (some nb)), .exact (.map (some db)), .exact pv, .exact (.int .i64 D.wr), .exact (.int .i64 D.fl), .exact (.bool D.dn)], dM hb nb D.names]) _ rfl (Sub.of_le (AF.le_put (AV.le_eq rfl) (AF.le_top _))) ?_)
        refine ⟨?_, rfl⟩
        have e : dkChk D s = 21 := by unfold dkChk; simp_all
        rw [e]; rfl
      · refine k_skip ?_
        refine kB_normal ?_
        refine kC_normal ?_
        refine k_seq ?_
        refine k_reg .free hmixP (by kernel_rfl) ?_
        refine G_q rfl (op_assign (av := .exact (.int .i64 0)) rfl ?_)
        refine G_nil ?_
        refine kC_normal ?_
        refine k_ret ?_
        refine kP_any (endN (af' := (AF.put AF0 (some 6) (.exact (.int .i64 0)))) (σ' := [boxI 81 b [.exact (.int .i64 D.cap), .exact (.map (some nb)), .exact (.map (some db)), .exact pv, .exact (.int .i64 D.wr), .exact (.int .i64 D.fl), .exact (.bool D.dn)], dM hb nb D.names]) _ rfl (Sub.of_le (AF.le_put (AV.le_eq rfl) (AF.le_top _))) ?_)
        refine ⟨?_, rfl⟩
        have e : dkChk D s = 0 := by unfold dkChk; simp_all
        rw [e]; rfl
set_option maxHeartbeats 4000000 in
theorem dk_sync {hb : List Nat} {b nb db : Nat} {pv : Value} {Z : List DkZ} (s : List UInt8) (D : Dk) (hZ : D.files = Z.map (·.2)) (r : Int × Dk) (h : m_disk_Sync D s = some r) : Fun Try.prog 50 [pA b 0, .exact (.string (bs s))] (dIts hb b nb db pv D Z) (fun a σ => ∃ db' pv' Z', r.2.files = Z'.map (·.2) ∧ a = .exact (.int .i64 r.1) ∧ σ = dIts hb b nb db' pv' r.2 Z') := by
  refine fun_of_awp Try.func50 rfl Try.ntmps50 (by simp) rfl (res1 rfl) fun E hE => k_end ?_
  unfold m_disk_Sync at h
  refine k_seq ?_
  refine k_reg .free hmixP (by kernel_rfl) ?_
  refine G_q rfl (op_assign (av := .exact (.int .i64 0)) rfl ?_)
  refine G_nil ?_
  refine kC_normal ?_
  refine k_seq ?_
  refine k_seq ?_
  refine k_reg .free hmixP (by kernel_rfl) ?_
  refine G_q rfl (op_move (av := pA b 0) rfl ?_)
  refine G_q rfl (op_move (av := .exact (.string (bs s))) rfl ?_)
  refine G_l rfl (op_fun_2_0_2 (dk_check s D) Try.func52 (by kernel_rfl) (LEs.cons (AV.le_eq rfl) (LEs.cons (AV.le_eq rfl) (LEs.cons (AV.le_eq rfl) LEs.nil))) ?_)
  refine G_q rfl (op_assign (av := .exact (.int .i64 (dkChk D s))) rfl ?_)
  refine G_nil ?_
  refine kC_normal ?_
  refine k_seq ?_
  refine k_reg .free hmixP (by kernel_rfl) ?_
  refine G_q rfl (op_move (av := .exact (.int .i64 (dkChk D s))) rfl ?_)
  refine G_q rfl (op_neq rfl rfl ?_)
  refine G_nil ?_
  refine kC_normal ?_
  refine k_cond_d (p := ¬ (dkChk D s) = 0) rfl (fun hc1 => ?_) (fun hc1 => ?_)
  · refine k_seq ?_
    refine k_reg .free hmixP (by kernel_rfl) ?_
    refine G_q rfl (op_move (av := .exact (.int .i64 (dkChk D s))) rfl ?_)
    refine G_q rfl (op_assign (av := .exact (.int .i64 (dkChk D s))) rfl ?_)
    refine G_nil ?_
    refine kC_normal ?_
    refine k_ret ?_
    refine kC_ret ?_
    rw [if_pos hc1] at h
    cases h
    refine kP_any (endN (af' := (AF.put AF0 (some 4) (.exact (.int .i64 (dkChk D s))))) (σ' := [boxI 81 b [.exact (.int .i64 D.cap), .exact (.map (some nb)), .exact (.map (some db)), .exact pv, .exact (.int .i64 D.wr), .exact (.int .i64 D.fl), .exact (.bool D.dn)], dM hb nb D.names, dM hb db D.dur, dP hb pv D.pend, dH hb Z, dVs Z]) _ rfl (SubU.to (SubU.trans SubU.f5 (SubU.trans SubU.f5 (SubU.trans SubU.f5 (SubU.trans SubU.f5 (SubU.trans SubU.f5 (SubU.trans SubU.f5 (SubU.of_le (AF.le_put (AV.le_eq rfl) (AF.le_top _)))))))))) ?_)
    exact ⟨db, pv, Z, hZ, rfl, rfl⟩
  · refine k_skip ?_
    refine kC_normal ?_
    refine k_seq ?_
    refine k_seq ?_
    refine k_reg .free hmixP (by kernel_rfl) ?_
    refine G_q rfl (op_move (av := pA b 0) rfl ?_)
    refine G_l rfl (op_fun_1_0_1 (dk_write D) Try.func56 (by kernel_rfl) (LEs.cons (AV.le_eq rfl) LEs.nil) ?_)
    refine G_q rfl (op_not rfl ?_)
    refine G_nil ?_
    refine kC_normal ?_
    refine k_cond_b (c := !(!(dkWr D).dn)) rfl (fun hc2 => ?_) (fun hc2 => ?_)
    · refine k_seq ?_
      refine k_reg .free hmixP (by kernel_rfl) ?_
      refine G_q rfl (op_assign (av := .exact (.int .i64 25)) rfl ?_)
      refine G_nil ?_
      refine kC_normal ?_
      refine k_ret ?_
      refine kC_ret ?_
      rw [if_neg hc1, if_pos (by simpa using hc2)] at h
      cases h
      refine kP_any (endN (af' := (AF.put AF0 (some 4) (.exact (.int .i64 25)))) (σ' := [boxI 81 b [.exact (.int .i64 ((dkWr D).cap)), .exact (.map (some nb)), .exact (.map (some db)), .exact pv, .exact (.int .i64 ((dkWr D).wr)), .exact (.int .i64 ((dkWr D).fl)), .exact (.bool ((dkWr D).dn))], dM hb nb D.names, dM hb db D.dur, dP hb pv D.pend, dH hb Z, dVs Z]) _ rfl (SubU.to (SubU.trans SubU.f5 (SubU.trans SubU.f5 (SubU.trans SubU.f5 (SubU.trans SubU.f5 (SubU.trans SubU.f5 (SubU.trans SubU.f5 (SubU.of_le (AF.le_put (AV.le_eq rfl) (AF.le_top _)))))))))) ?_)
      exact ⟨db, pv, Z, hZ, rfl, rfl⟩
    · refine k_skip ?_
      refine kC_normal ?_
      refine k_seq ?_
      rw [if_neg hc1, if_neg (by simpa using hc2)] at h
      obtain ⟨n1, h⟩ := need_some h
      have hr : 0 ≤ (lookL D.names s).getD (-1) ∧ (lookL D.names s).getD (-1) < (Z.length : Int) := by rw [hZ, List.length_map] at n1; exact n1
      cases h
      refine k_reg .free hmixP (by kernel_rfl) ?_
      refine G_q rfl (op_move (av := pA b 0) rfl ?_)
      refine G_q rfl (op_nilCheck rfl ?_)
      refine G_q rfl (op_fieldAddr (o := 1) (by kernel_rfl) rfl ?_)
      refine G_r rfl (op_load_box1 (a := .exact (.map (some nb))) (by kernel_rfl) rfl rfl ?_)
      refine G_q rfl (op_move (av := .exact (.string (bs s))) rfl ?_)
      refine G_r rfl (op_mlook (z := ((-1) : Int)) (List.Mem.tail _ (List.Mem.head _)) (keyOk_str Try.underlying9) (fun _ _ _ => trivial) Try.underlying78 (fun _ w => ⟨_, Try.zeroValue88 w, zp_ref⟩) rfl (keyAV_str rfl) ?_)
      refine G_q rfl (op_assign (av := refA hb ((lookL D.names s).getD (-1))) rfl ?_)
      refine G_nil ?_
      refine kC_normal ?_
      refine k_seq ?_
      refine k_reg .free hmixP (by kernel_rfl) ?_
      refine G_q rfl (op_move (av := refA hb ((lookL D.names s).getD (-1))) rfl ?_)
      refine G_q rfl (op_move (av := refA hb ((lookL D.names s).getD (-1))) rfl ?_)
      refine G_q rfl (op_nilC_ref rfl (by omega) ?_)
      refine G_q rfl (op_field_hpt (o := 0) (by kernel_rfl) rfl ?_)
      refine G_r rfl (op_load_hpt (t := 87) (enc := fEnc) (H := Z) (a := .exact (gi Z ((lookL D.names s).getD (-1))).1) (List.Mem.tail _ (List.Mem.tail _ (List.Mem.tail _ (List.Mem.tail _ (List.Mem.head _))))) (by kernel_rfl) rfl rfl ?_)
      refine G_r rfl (op_len_dVs (i := ((lookL D.names s).getD (-1))) (Z := Z) (List.Mem.tail _ (List.Mem.tail _ (List.Mem.tail _ (List.Mem.tail _ (List.Mem.tail _ (List.Mem.head _)))))) (by kernel_rfl) hr.1 hr.2 rfl ?_)
      refine G_q rfl (op_nilC_ref rfl (by omega) ?_)
      refine G_q rfl (op_field_hpt (o := 1) (by kernel_rfl) rfl ?_)
      refine G_l rfl (opB_f4 (op_store_hpt (i := ((lookL D.names s).getD (-1))) (o := 1) (z := ((gi Z ((lookL D.names s).getD (-1))).1, (gi Z ((lookL D.names s).getD (-1))).2.1, ((gi Z ((lookL D.names s).getD (-1))).2.1.length : Int))) (c' := [.exact (.int .i64 ((gi Z ((lookL D.names s).getD (-1))).2.1.length : Int))]) rfl rfl CellsOf.int (LEs.cons (AV.le_eq rfl) LEs.nil) (OneC.int OneC.nil) (by kernel_rfl) (Nat.le_of_ble_eq_true rfl) rfl ?_))
      refine G_nil ?_
      refine kC_normal ?_
      refine k_seq ?_
      refine k_reg .free hmixP (by kernel_rfl) ?_
      refine G_q rfl (op_move (av := pA b 0) rfl ?_)
      refine G_q rfl (op_move (av := pA b 0) rfl ?_)
      refine G_q rfl (op_nilCheck rfl ?_)
      refine G_q rfl (op_fieldAddr (o := 1) (by kernel_rfl) rfl ?_)
      refine G_r rfl (opR_f1 (op_load_box1 (a := .exact (.map (some nb))) (by kernel_rfl) rfl rfl ?_))
      refine G_l rfl (opB_f2 (op_fun_1_1_2 dk_clone Try.func73 (by kernel_rfl) (LEs.cons (AV.le_eq rfl) LEs.nil) (fun nc => ?_)))
      refine G_q rfl (op_nilCheck rfl ?_)
      refine G_q rfl (op_fieldAddr (o := 2) (by kernel_rfl) rfl ?_)
      refine G_l rfl (opB_f3 (op_store_box (c' := [.exact (.map (some nc))]) (c3 := [.exact (.int .i64 ((dkWr D).cap)), .exact (.map (some nb)), .exact (.map (some nc)), .exact pv, .exact (.int .i64 ((dkWr D).wr)), .exact (.int .i64 ((dkWr D).fl)), .exact (.bool ((dkWr D).dn))]) rfl rfl CellsOf.mapz (LEs.cons (AV.le_eq rfl) LEs.nil) (OneC.mapz OneC.nil) (by kernel_rfl) (Nat.le_of_ble_eq_true rfl) rfl ?_))
      refine G_nil ?_
      refine kC_normal ?_
      refine k_seq ?_
      refine k_reg .free hmixP (by kernel_rfl) ?_
      refine G_q rfl (op_move (av := pA b 0) rfl ?_)
      refine G_q rfl (op_nilCheck rfl ?_)
      refine G_q rfl (op_fieldAddr (o := 3) (by kernel_rfl) rfl ?_)
      refine G_l rfl (op_store_box (c' := [.exact (.slice none 0 0)]) (c3 := [.exact (.int .i64 ((dkWr D).cap)), .exact (.map (some nb)), .exact (.map (some nc)), .exact (.slice none 0 0), .exact (.int .i64 ((dkWr D).wr)), .exact (.int .i64 ((dkWr D).fl)), .exact (.bool ((dkWr D).dn))]) rfl rfl CellsOf.slice (LEs.cons (AV.le_eq rfl) LEs.nil) OneC.nilc (by kernel_rfl) (Nat.le_of_ble_eq_true rfl) rfl ?_)
      refine G_nil ?_
      refine kC_normal ?_
      refine k_seq ?_
      refine k_reg .free hmixP (by kernel_rfl) ?_
      refine G_q rfl (op_assign (av := .exact (.int .i64 0)) rfl ?_)
      refine G_nil ?_
      refine kC_normal ?_
      refine k_ret ?_
      refine kP_any (endN (af' := (AF.put AF0 (some 4) (.exact (.int .i64 0)))) (σ' := [boxI 81 b [.exact (.int .i64 ((dkWr D).cap)), .exact (.map (some nb)), .exact (.map (some nc)), .exact (.slice none 0 0), .exact (.int .i64 ((dkWr D).wr)), .exact (.int .i64 ((dkWr D).fl)), .exact (.bool ((dkWr D).dn))], dM hb nb D.names, dM hb nc D.names, dP hb (.slice none 0 0) [], dH hb (Z.set (((lookL D.names s).getD (-1))).toNat ((gi Z ((lookL D.names s).getD (-1))).1, (gi Z ((lookL D.names s).getD (-1))).2.1, ((gi Z ((lookL D.names s).getD (-1))).2.1.length : Int))), dVs Z]) _ rfl (SubU.to (SubU.trans SubU.f4 (SubU.trans SubU.drop (SubU.trans SubU.f4 (SubU.trans SubU.drop (SubU.trans (SubU.nilT (P := Try.prog) (t := 79) (n := 3) (enc := opE hb)) (SubU.trans SubU.f5 (SubU.trans SubU.f5 (SubU.trans SubU.f2 (SubU.trans SubU.f4 (SubU.trans SubU.f5 (SubU.trans SubU.f5 (SubU.of_le (AF.le_put (AV.le_eq rfl) (AF.le_top _))))))))))))))) ?_)
      refine ⟨nc, .slice none 0 0, Z.set (((lookL D.names s).getD (-1))).toNat ((gi Z ((lookL D.names s).getD (-1))).1, (gi Z ((lookL D.names s).getD (-1))).2.1, ((gi Z ((lookL D.names s).getD (-1))).2.1.length : Int)), ?_, rfl, ?_⟩
      · dsimp only; rw [hZ, List.map_set, gi_map hr.1 hr.2]
      · have hV : dVs (Z.set (((lookL D.names s).getD (-1))).toNat ((gi Z ((lookL D.names s).getD (-1))).1, (gi Z ((lookL D.names s).getD (-1))).2.1, ((gi Z ((lookL D.names s).getD (-1))).2.1.length : Int))) = dVs Z := congrArg allI (dV_set hr.1 hr.2 _)
        unfold dIts
        rw [hV]
        rfl
set_option maxHeartbeats 4000000 in
theorem dk_byClone (a : List UInt8) (ha : a.length ≤ 137438953472) : Fun Try.prog 53 [.row 1 cU8 a] [] (fun r s => ∃ z, r = .exact z ∧ s = [vecT Try.prog 32 1 cU8 z a]) := by
  refine fun_of_awp Try.func53 rfl Try.ntmps53 (by simp) rfl (res1 rfl) fun E hE => k_end ?_
  refine k_seq ?_
  refine k_reg .free hmixP (by kernel_rfl) ?_
  refine G_q rfl (op_assign (av := .exact (.slice none 0 0)) rfl ?_)
  refine G_nil ?_
  refine kC_normal ?_
  refine k_seq ?_
  refine k_seq ?_
  refine k_reg .free hmixP (by kernel_rfl) ?_
  refine G_q rfl (op_move (av := .row 1 cU8 a) rfl ?_)
  refine G_q rfl (op_eqnil_row (by kernel_rfl) rfl ?_)
  refine G_nil ?_
  refine kC_normal ?_
  refine k_cond_u (p := a = []) rfl (fun hc => ?_) ?_
  · refine k_seq ?_
    refine k_reg .free hmixP (by kernel_rfl) ?_
    refine G_q rfl (op_assign (av := .exact (.slice none 0 0)) rfl ?_)
    refine G_nil ?_
    refine kC_normal ?_
    refine k_ret ?_
    refine kC_ret ?_
    subst hc
    exact kP_any (endN (af' := (AF.put AF0 (some 2) (.exact (.slice none 0 0)))) (σ' := [vecT Try.prog 32 1 cU8 (.slice none 0 0) []]) _ rfl (SubU.to (SubU.trans (SubU.nilT (P := Try.prog) (t := 32) (n := 1) (enc := cU8)) (SubU.of_le (AF.le_put (AV.le_eq rfl) (AF.le_top _))))) ⟨_, rfl, rfl⟩)
  · refine k_skip ?_
    refine kC_normal ?_
    refine k_seq ?_
    refine k_reg .free hmixP (by kernel_rfl) ?_
    refine G_l rfl (op_lit0I (enc := cU8) (n := 1) (by kernel_rfl) (fun v5 => ?_))
    refine G_q rfl (op_move (av := .row 1 cU8 a) rfl ?_)
    refine G_l rfl (op_appT (by kernel_rfl) rfl rfl dk_ocU8 (by show _ ≤ 137438953472; simpa using ha) (fun v7 => ?_))
    refine G_q rfl (op_assign (av := .exact v7) rfl ?_)
    refine G_nil ?_
    refine kC_normal ?_
    refine k_ret ?_
    exact kP_any (endN (af' := (AF.put AF0 (some 2) (.exact v7))) (σ' := [vecT Try.prog 32 1 cU8 v7 a]) _ rfl (Sub.of_le (AF.le_put (AV.le_eq rfl) (AF.le_top _))) ⟨_, rfl, rfl⟩)
set_option maxHeartbeats 4000000 in
theorem dk_read {hb : List Nat} {b nb db : Nat} {pv : Value} {Z : List DkZ} (s : List UInt8) (D : Dk) (hZ : D.files = Z.map (·.2)) (r : List UInt8 × Int × Dk) (h : m_disk_Read D s = some r) : Fun Try.prog 26 [pA b 0, .exact (.string (bs s))] (dIts hb b nb db pv D Z) (fun a σ => a = .tup [.row 1 cU8 r.1, .exact (.int .i64 r.2.1)] ∧ σ = dIts hb b nb db pv r.2.2 Z) := by
  refine fun_of_awp Try.func26 rfl Try.ntmps26 (by simp) rfl (res2 rfl) fun E hE => k_end ?_
  unfold m_disk_Read at h
  refine k_seq ?_
  refine k_reg .free hmixP (by kernel_rfl) ?_
  refine G_q rfl (op_assign (av := .exact (.slice none 0 0)) rfl ?_)
  refine G_q rfl (op_assign (av := .exact (.int .i64 0)) rfl ?_)
  refine G_nil ?_
  refine kC_normal ?_
  refine k_seq ?_
  refine k_seq ?_
  refine k_reg .free hmixP (by kernel_rfl) ?_
  refine G_q rfl (op_move (av := pA b 0) rfl ?_)
  refine G_q rfl (op_move (av := .exact (.string (bs s))) rfl ?_)
  refine G_l rfl (op_fun_2_0_2 (dk_check s D) Try.func52 (by kernel_rfl) (LEs.cons (AV.le_eq rfl) (LEs.cons (AV.le_eq rfl) (LEs.cons (AV.le_eq rfl) LEs.nil))) ?_)
  refine G_q rfl (op_assign (av := .exact (.int .i64 (dkChk D s))) rfl ?_)
  refine G_nil ?_
  refine kC_normal ?_
  refine k_seq ?_
  refine k_reg .free hmixP (by kernel_rfl) ?_
  refine G_q rfl (op_move (av := .exact (.int .i64 (dkChk D s))) rfl ?_)
  refine G_q rfl (op_neq rfl rfl ?_)
  refine G_nil ?_
  refine kC_normal ?_
  refine k_cond_d (p := ¬ (dkChk D s) = 0) rfl (fun hc1 => ?_) (fun hc1 => ?_)
  · refine k_seq ?_
    refine k_reg .free hmixP (by kernel_rfl) ?_
    refine G_q rfl (op_move (av := .exact (.int .i64 (dkChk D s))) rfl ?_)
    refine G_q rfl (op_assign (av := .exact (.slice none 0 0)) rfl ?_)
    refine G_q rfl (op_assign (av := .exact (.int .i64 (dkChk D s))) rfl ?_)
    refine G_nil ?_
    refine kC_normal ?_
    refine k_ret ?_
    refine kC_ret ?_
    rw [if_pos hc1] at h
    cases h
    refine kP_any (endN (af' := (AF.put (AF.put AF0 (some 4) (.row 1 cU8 [])) (some 5) (.exact (.int .i64 (dkChk D s))))) (σ' := [boxI 81 b [.exact (.int .i64 D.cap), .exact (.map (some nb)), .exact (.map (some db)), .exact pv, .exact (.int .i64 D.wr), .exact (.int .i64 D.fl), .exact (.bool D.dn)], dM hb nb D.names, dM hb db D.dur, dP hb pv D.pend, dH hb Z, dVs Z]) _ rfl (Sub.of_le (AF.le_put (AV.le_eq rfl) (AF.le_put (row_nil (by decide)) (AF.le_top _)))) ?_)
    exact ⟨rfl, rfl⟩
  · refine k_skip ?_
    refine kC_normal ?_
    refine k_seq ?_
    rw [if_neg hc1] at h
    obtain ⟨n1, h⟩ := need_some h
    have hr : 0 ≤ (lookL D.names s).getD (-1) ∧ (lookL D.names s).getD (-1) < (Z.length : Int) := by rw [hZ, List.length_map] at n1; exact n1
    obtain ⟨n2, h⟩ := need_some h
    rw [hZ, gi_map hr.1 hr.2] at n2 h
    cases h
    refine k_reg .free hmixP (by kernel_rfl) ?_
    refine G_q rfl (op_move (av := pA b 0) rfl ?_)
    refine G_q rfl (op_nilCheck rfl ?_)
    refine G_q rfl (op_fieldAddr (o := 1) (by kernel_rfl) rfl ?_)
    refine G_r rfl (op_load_box1 (a := .exact (.map (some nb))) (by kernel_rfl) rfl rfl ?_)
    refine G_q rfl (op_move (av := .exact (.string (bs s))) rfl ?_)
    refine G_r rfl (op_mlook (z := ((-1) : Int)) (List.Mem.tail _ (List.Mem.head _)) (keyOk_str Try.underlying9) (fun _ _ _ => trivial) Try.underlying78 (fun _ w => ⟨_, Try.zeroValue88 w, zp_ref⟩) rfl (keyAV_str rfl) ?_)
    refine G_q rfl (op_nilC_ref rfl (by omega) ?_)
    refine G_q rfl (op_field_hpt (o := 0) (by kernel_rfl) rfl ?_)
    refine G_r rfl (op_load_hpt (t := 87) (enc := fEnc) (H := Z) (a := .exact (gi Z ((lookL D.names s).getD (-1))).1) (List.Mem.tail _ (List.Mem.tail _ (List.Mem.tail _ (List.Mem.tail _ (List.Mem.head _))))) (by kernel_rfl) rfl rfl ?_)
    refine G_l rfl (op_ownB (dk_byClone _ n2) Try.func53 (by kernel_rfl) (mi_cU8 _) (Bors.cons (Bor.dVs (List.Mem.tail _ (List.Mem.tail _ (List.Mem.tail _ (List.Mem.tail _ (List.Mem.tail _ (List.Mem.head _)))))) hr.1 hr.2) Bors.nil) (fun z => ?_))
    refine G_q rfl (op_assign (av := .exact z) rfl ?_)
    refine G_q rfl (op_assign (av := .exact (.int .i64 0)) rfl ?_)
    refine G_nil ?_
    refine kC_normal ?_
    refine k_ret ?_
    refine kP_any (endN (af' := (AF.put (AF.put AF0 (some 4) (.row 1 cU8 (gi Z ((lookL D.names s).getD (-1))).2.1)) (some 5) (.exact (.int .i64 0)))) (σ' := [boxI 81 b [.exact (.int .i64 D.cap), .exact (.map (some nb)), .exact (.map (some db)), .exact pv, .exact (.int .i64 D.wr), .exact (.int .i64 D.fl), .exact (.bool D.dn)], dM hb nb D.names, dM hb db D.dur, dP hb pv D.pend, dH hb Z, dVs Z]) _ rfl (SubU.to (SubU.trans (SubU.freezeT (s := 4) rfl (fun _ => rfl)) (SubU.of_le (AF.le_put (AV.le_eq rfl) (AF.le_put (AV.le_eq rfl) (AF.le_top _)))))) ?_)
    exact ⟨rfl, rfl⟩
set_option maxHeartbeats 4000000 in
theorem dk_append {hb : List Nat} {b nb db : Nat} {pv : Value} {Z : List DkZ} (s y : List UInt8) (D : Dk) (hZ : D.files = Z.map (·.2)) (r : Int × Dk) (h : m_disk_Append D s y = some r) : Fun Try.prog 27 [pA b 0, .exact (.string (bs s)), .row 1 cU8 y] (dIts hb b nb db pv D Z) (fun a σ => ∃ hb' db' pv' Z', r.2.files = Z'.map (·.2) ∧ a = .exact (.int .i64 r.1) ∧ σ = dIts hb' b nb db' pv' r.2 Z') := by
  refine fun_of_awp Try.func27 rfl Try.ntmps27 (by simp) rfl (res1 rfl) fun E hE => k_end ?_
  unfold m_disk_Append at h
  refine k_seq ?_
  refine k_reg .free hmixP (by kernel_rfl) ?_
  refine G_q rfl (op_assign (av := .exact (.int .i64 0)) rfl ?_)
  refine G_nil ?_
  refine kC_normal ?_
  refine k_seq ?_
  refine k_reg .free hmixP (by kernel_rfl) ?_
  refine G_q rfl (op_move (av := pA b 0) rfl ?_)
  refine G_q rfl (op_nilCheck rfl ?_)
  refine G_q rfl (op_fieldAddr (o := 1) (by kernel_rfl) rfl ?_)
  refine G_r rfl (op_load_box1 (a := .exact (.map (some nb))) (by kernel_rfl) rfl rfl ?_)
  refine G_q rfl (op_move (av := .exact (.string (bs s))) rfl ?_)
  refine G_r rfl (op_mlook (z := ((-1) : Int)) (List.Mem.tail _ (List.Mem.head _)) (keyOk_str Try.underlying9) (fun _ _ _ => trivial) Try.underlying78 (fun _ w => ⟨_, Try.zeroValue88 w, zp_ref⟩) rfl (keyAV_str rfl) ?_)
  refine G_q rfl (op_assign (av := refA hb ((lookL D.names s).getD (-1))) rfl ?_)
  refine G_nil ?_
  refine kC_normal ?_
  refine k_seq ?_
  refine k_block ?_
  refine k_seq ?_
  refine k_reg .free hmixP (by kernel_rfl) ?_
  refine G_q rfl (op_move (av := pA b 0) rfl ?_)
  refine G_q rfl (op_nilCheck rfl ?_)
  refine G_q rfl (op_fieldAddr (o := 6) (by kernel_rfl) rfl ?_)
  refine G_r rfl (op_load_box1 (a := .exact (.bool D.dn)) (by kernel_rfl) rfl rfl ?_)
  refine G_q rfl (op_assign (av := .exact (.bool D.dn)) rfl ?_)
  refine G_nil ?_
  refine kC_normal ?_
  refine k_cond_b (c := D.dn) rfl (fun hc1 => ?_) (fun hc1 => ?_)
  · refine k_seq ?_
    refine k_reg .free hmixP (by kernel_rfl) ?_
    refine G_q rfl (op_assign (av := .exact (.int .i64 25)) rfl ?_)
    refine G_nil ?_
    refine kC_normal ?_
    refine k_ret ?_
    refine kB_ret ?_
    refine kC_ret ?_
    rw [if_pos hc1] at h
    cases h
    refine kP_any (endN (af' := (AF.put AF0 (some 6) (.exact (.int .i64 25)))) (σ' := [boxI 81 b [.exact (.int .i64 D.cap), .exact (.map (some nb)), .exact (.map (some db)), .exact pv, .exact (.int .i64 D.wr), .exact (.int .i64 D.fl), .exact (.bool D.dn)], dM hb nb D.names, dM hb db D.dur, dP hb pv D.pend, dH hb Z, dVs Z]) _ rfl (SubU.to (SubU.trans SubU.f5 (SubU.trans SubU.f5 (SubU.trans SubU.f5 (SubU.trans SubU.f5 (SubU.trans SubU.f5 (SubU.trans SubU.f5 (SubU.of_le (AF.le_put (AV.le_eq rfl) (AF.le_top _)))))))))) ?_)
    exact ⟨hb, db, pv, Z, hZ, rfl, rfl⟩
  · refine k_seq ?_
    refine k_reg .free hmixP (by kernel_rfl) ?_
    refine G_q rfl (op_move (av := .exact (.string (bs s))) rfl ?_)
    refine G_q rfl (op_pure (dk_valid s) Try.func54 (by kernel_rfl) (LEs.cons (AV.le_eq rfl) LEs.nil) ?_)
    refine G_q rfl (op_not_d rfl ?_)
    refine G_q rfl (op_assign (av := .exact (.bool (decide (¬ (1 ≤ s.length ∧ s.length ≤ 32))))) rfl ?_)
    refine G_nil ?_
    refine kC_normal ?_
    refine k_cond_d (p := ¬ (1 ≤ s.length ∧ s.length ≤ 32)) rfl (fun hc2 => ?_) (fun hc2 => ?_)
    · refine k_seq ?_
      refine k_reg .free hmixP (by kernel_rfl) ?_
      refine G_q rfl (op_assign (av := .exact (.int .i64 1)) rfl ?_)
      refine G_nil ?_
      refine kC_normal ?_
      refine k_ret ?_
      refine kB_ret ?_
      refine kC_ret ?_
      rw [if_neg hc1, if_pos hc2] at h
      cases h
      refine kP_any (endN (af' := (AF.put AF0 (some 6) (.exact (.int .i64 1)))) (σ' := [boxI 81 b [.exact (.int .i64 D.cap), .exact (.map (some nb)), .exact (.map (some db)), .exact pv, .exact (.int .i64 D.wr), .exact (.int .i64 D.fl), .exact (.bool D.dn)], dM hb nb D.names, dM hb db D.dur, dP hb pv D.pend, dH hb Z, dVs Z]) _ rfl (SubU.to (SubU.trans SubU.f5 (SubU.trans SubU.f5 (SubU.trans SubU.f5 (SubU.trans SubU.f5 (SubU.trans SubU.f5 (SubU.trans SubU.f5 (SubU.of_le (AF.le_put (AV.le_eq rfl) (AF.le_top _)))))))))) ?_)
      exact ⟨hb, db, pv, Z, hZ, rfl, rfl⟩
    · refine k_seq ?_
      refine k_seq ?_
      refine k_reg .free hmixP (by kernel_rfl) ?_
      refine G_q rfl (op_move (av := refA hb ((lookL D.names s).getD (-1))) rfl ?_)
      refine G_q rfl (op_eqnil_ref (t := 87) (by kernel_rfl) (by kernel_rfl) rfl rfl ?_)
      refine G_q rfl (op_move (av := .exact (.bool (decide (((lookL D.names s).getD (-1)) = -1)))) rfl ?_)
      refine G_split (p := ((lookL D.names s).getD (-1)) = -1) 27 rfl (fun hc3 => ?_) (fun hc3 => ?_)
      · refine Gy_q rfl rfl rfl (op_move (av := pA b 0) rfl ?_)
        refine Gy_q rfl rfl rfl (op_nilCheck rfl ?_)
        refine Gy_q rfl rfl rfl (op_fieldAddr (o := 1) (by kernel_rfl) rfl ?_)
        refine Gy_r rfl rfl rfl (op_load_box1 (a := .exact (.map (some nb))) (by kernel_rfl) rfl rfl ?_)
        refine Gy_r rfl rfl rfl (op_mlen (List.Mem.tail _ (List.Mem.head _)) Try.underlying78 rfl ?_)
        refine Gy_q rfl rfl rfl (op_geq rfl rfl ?_)
        refine G_q rfl (op_pick_t rfl (av := .exact (.bool (decide (64 ≤ (List.length D.names : Int))))) rfl ?_)
        refine G_q rfl (op_assign (av := .exact (.bool (decide (64 ≤ (List.length D.names : Int))))) rfl ?_)
        refine G_nil ?_
        refine kC_normal ?_
        refine k_cond_d (p := 64 ≤ (List.length D.names : Int)) rfl (fun hc4 => ?_) (fun hc4 => ?_)
        · refine k_skip ?_
          refine kC_normal ?_
          refine k_cond_d (p := 64 ≤ (List.length D.names : Int)) rfl (fun _ => ?_) (fun hc5 => absurd hc4 hc5)
          refine k_seq ?_
          refine k_reg .free hmixP (by kernel_rfl) ?_
          refine G_q rfl (op_assign (av := .exact (.int .i64 10)) rfl ?_)
          refine G_nil ?_
          refine kC_normal ?_
          refine k_ret ?_
          refine kB_ret ?_
          refine kC_ret ?_
          rw [if_neg hc1, if_neg hc2, if_pos (by omega)] at h
          cases h
          refine kP_any (endN (af' := (AF.put AF0 (some 6) (.exact (.int .i64 10)))) (σ' := [boxI 81 b [.exact (.int .i64 D.cap), .exact (.map (some nb)), .exact (.map (some db)), .exact pv, .exact (.int .i64 D.wr), .exact (.int .i64 D.fl), .exact (.bool D.dn)], dM hb nb D.names, dM hb db D.dur, dP hb pv D.pend, dH hb Z, dVs Z]) _ rfl (SubU.to (SubU.trans SubU.f5 (SubU.trans SubU.f5 (SubU.trans SubU.f5 (SubU.trans SubU.f5 (SubU.trans SubU.f5 (SubU.trans SubU.f5 (SubU.of_le (AF.le_put (AV.le_eq rfl) (AF.le_top _)))))))))) ?_)
          exact ⟨hb, db, pv, Z, hZ, rfl, rfl⟩
        · rw [if_neg hc1, if_neg hc2, if_neg (by omega)] at h
          obtain ⟨u, hu, h⟩ := bnd1_some h
          refine k_plan [dB b nb db pv D] [(0, 0), (0, 1), (0, 2), (0, 3), (0, 4), (4, 5), (0, 6), (3, 7), (0, 8), (0, 9), (0, 10)] hmixP (by kernel_rfl) ?_
          refine P_q no34_0 rfl (op_move (av := .row 1 cU8 y) rfl ?_)
          refine P_q no34_0 rfl (op_len_row (by kernel_rfl) rfl ?_)
          refine P_q no34_0 rfl (op_move (av := pA b 0) rfl ?_)
          refine P_q no34_0 rfl (op_nilCheck rfl ?_)
          refine P_q no34_0 rfl (op_fieldAddr (o := 0) (by kernel_rfl) rfl ?_)
          refine P_r4 (Has.cons (List.Mem.head _) Has.mk0) rfl (opI_mk (List.Mem.head _) (fun _ => op_load_box1 (a := .exact (.int .i64 D.cap)) (by kernel_rfl) rfl rfl rfl) ?_)
          refine P_q no34_0 rfl (op_move (av := pA b 0) rfl ?_)
          refine P_l3 rfl (opB_f5 (opB_f5 (opB_f3 (opB_f3 (op_fun_4_0_4 (dk_used D hZ u hu) Try.func55 (by kernel_rfl) (LEs.cons (AV.le_eq rfl) LEs.nil) ⟨Has.cons (List.Mem.head _) Has.mk0, ?_⟩)))))
          refine P_q no34_0 rfl (op_sub rfl rfl rfl ?_)
          refine P_q no34_0 rfl (op_gtr rfl rfl ?_)
          refine P_q no34_0 rfl (op_assign (av := .exact (.bool (decide ((i64 (D.cap - u)) < (List.length y : Int))))) rfl ?_)
          refine P_nil ?_
          refine kC_normal ?_
          refine k_cond_d (p := (i64 (D.cap - u)) < (List.length y : Int)) rfl (fun hc6 => ?_) (fun hc6 => ?_)
          · refine k_seq ?_
            refine k_reg .free hmixP (by kernel_rfl) ?_
            refine G_q rfl (op_assign (av := .exact (.int .i64 10)) rfl ?_)
            refine G_nil ?_
            refine kC_normal ?_
            refine k_ret ?_
            refine kB_ret ?_
            refine kC_ret ?_
            rw [if_pos hc6] at h
            cases h
            refine kP_any (endN (af' := (AF.put AF0 (some 6) (.exact (.int .i64 10)))) (σ' := [boxI 81 b [.exact (.int .i64 D.cap), .exact (.map (some nb)), .exact (.map (some db)), .exact pv, .exact (.int .i64 D.wr), .exact (.int .i64 D.fl), .exact (.bool D.dn)], dM hb nb D.names, dM hb db D.dur, dP hb pv D.pend, dH hb Z, dVs Z]) _ rfl (SubU.to (SubU.trans SubU.f3 (SubU.trans SubU.f3 (SubU.trans SubU.f5 (SubU.trans SubU.f5 (SubU.trans SubU.f5 (SubU.trans SubU.f5 (SubU.of_le (AF.le_put (AV.le_eq rfl) (AF.le_top _)))))))))) ?_)
            exact ⟨hb, db, pv, Z, hZ, rfl, rfl⟩
          · refine k_skip ?_
            refine kB_normal ?_
            refine kC_normal ?_
            refine k_seq ?_
            rw [if_neg hc6] at h
            obtain ⟨hy, h⟩ := need_some h
            refine k_reg .free hmixP (by kernel_rfl) ?_
            refine G_q rfl (op_assign (av := .exact (.int .i64 0)) rfl ?_)
            refine G_nil ?_
            refine kC_normal ?_
            refine k_seq ?_
            refine k_seq ?_
            refine k_reg .free hmixP (by kernel_rfl) ?_
            refine G_q rfl (op_move (av := pA b 0) rfl ?_)
            refine G_l rfl (op_fun_1_0_1 (dk_write D) Try.func56 (by kernel_rfl) (LEs.cons (AV.le_eq rfl) LEs.nil) ?_)
            refine G_q rfl (op_not rfl ?_)
            refine G_nil ?_
            refine kC_normal ?_
            refine k_cond_b (c := !(!(dkWr D).dn)) rfl (fun hc7 => ?_) (fun hc7 => ?_)
            · refine k_reg .free hmixP (by kernel_rfl) ?_
              refine G_q rfl (op_move (av := .row 1 cU8 y) rfl ?_)
              refine G_q rfl (op_move (av := .row 1 cU8 y) rfl ?_)
              refine G_q rfl (op_len_row (by kernel_rfl) rfl ?_)
              refine G_q rfl (op_quo rfl rfl (by decide) (dk_half hy) ?_)
              refine G_q rfl (op_slice_rowt (by kernel_rfl) rfl bnd_none (bnd_some rfl) (Int.le_refl _) (by omega) (by omega) ?_)
              refine G_q rfl (op_assign (av := .row 1 cU8 (y.take (y.length / 2))) rfl ?_)
              refine G_q rfl (op_assign (av := .exact (.int .i64 25)) rfl ?_)
              refine G_nil ?_
              refine kC_normal ?_
              refine k_seq ?_
              refine k_seq ?_
              have hby : dkBy D y = (y.take (y.length / 2), 25) := by unfold dkBy; rw [if_pos (by simpa using hc7)]
              rw [hby] at h
              rw [if_pos hc3] at h
              obtain ⟨hpl, h⟩ := need_some h
              cases h
              refine k_reg .free hmixP (by kernel_rfl) ?_
              refine G_q rfl (op_move (av := refA hb ((lookL D.names s).getD (-1))) rfl ?_)
              refine G_q rfl (op_eqnil_ref (t := 87) (by kernel_rfl) (by kernel_rfl) rfl rfl ?_)
              refine G_nil ?_
              refine kC_normal ?_
              refine k_cond_d (p := ((lookL D.names s).getD (-1)) = -1) rfl (fun _ => ?_) (fun hc8 => absurd hc3 hc8)
              refine k_seq ?_
              refine k_reg .free hmixP (by kernel_rfl) ?_
              refine G_q rfl (op_bld (c' := [.exact (.slice none 0 0), .exact (.int .i64 0)]) CellsAll.nil rfl (LEs.cons (AV.le_eq rfl) (LEs.cons (AV.le_eq rfl) LEs.nil)) ?_)
              refine G_l rfl (op_boxI (c := [.exact (.slice none 0 0), .exact (.int .i64 0)]) rfl CellsOf.agg (LEs.cons (AV.le_eq rfl) (LEs.cons (AV.le_eq rfl) LEs.nil)) (fun fb => ?_))
              refine G_q rfl (op_assign (av := pA fb 0) rfl ?_)
              refine G_nil ?_
              refine kC_normal ?_
              refine k_reg .free hmixP (by kernel_rfl) ?_
              refine G_sub rfl (SubU.trans SubU.f3 (SubU.trans SubU.f1 (SubU.trans (SubU.addHeap (s := 7) (x := z0) (enc' := fEnc) rfl (LEs.cons (AV.le_eq rfl) (LEs.cons (AV.le_eq rfl) LEs.nil)) (fun _ => (LEs.cons (AV.le_eq rfl) (LEs.cons (AV.le_eq rfl) LEs.nil)))) (SubU.trans SubU.f2 (SubU.trans (SubU.mapLe (vv' := fun x : Int => refA (hb ++ [fb]) x) (fun _ => refA_mono)) (SubU.trans SubU.f4 (SubU.trans (SubU.mapLe (vv' := fun x : Int => refA (hb ++ [fb]) x) (fun _ => refA_mono)) (SubU.trans SubU.f5 (SubU.trans (SubU.vecLe (enc' := opE (hb ++ [fb])) (fun _ => LEs.cons (AV.le_eq rfl) (LEs.cons (AV.le_eq rfl) (LEs.cons refA_mono LEs.nil)))) (SubU.trans SubU.f5 ((SubU.addNil (f := dV) (x := z0) dV_own dV_nil)))))))))))) ?_
              refine G_q rfl (op_move (av := pA b 0) rfl ?_)
              refine G_q rfl (op_move (av := .exact (.string (bs s))) rfl ?_)
              refine G_q rfl (op_move (av := refA (hb ++ [fb]) (Z.length : Int)) rfl ?_)
              refine G_q rfl (op_bld (c' := [.exact (.string (bs [])), .exact (.string (bs s)), refA (hb ++ [fb]) (Z.length : Int)]) (CellsAll.cons rfl CellsOf.str (CellsAll.cons rfl CellsOf.ref CellsAll.nil)) rfl (LEs.cons (AV.le_eq rfl) (LEs.cons (AV.le_eq rfl) (LEs.cons (AV.le_eq rfl) LEs.nil))) ?_)
              refine G_l rfl (opB_f1 (opB_f3 (opB_f5 (op_fun_3_1_3 (dk_change [] s (Z.length : Int) (dkWr D) hpl) Try.func57 (by kernel_rfl) (LEs.cons (AV.le_eq rfl) (LEs.cons (AV.le_eq rfl) LEs.nil)) (fun pv' => ?_)))))
              refine G_nil ?_
              refine kC_normal ?_
              refine k_seq ?_
              refine k_reg .free hmixP (by kernel_rfl) ?_
              have hz : 0 ≤ (Z.length : Int) ∧ (Z.length : Int) < (((Z ++ [z0]).length : Nat) : Int) := by rw [List.length_append, List.length_singleton]; omega
              refine G_sub rfl (SubU.trans SubU.f3 (SubU.takeG (f := dV) hz.1 hz.2)) ?_
              refine G_q rfl (op_move (av := refA (hb ++ [fb]) (Z.length : Int)) rfl ?_)
              refine G_q rfl (op_move (av := refA (hb ++ [fb]) (Z.length : Int)) rfl ?_)
              refine G_q rfl (op_nilC_ref rfl (by omega) ?_)
              refine G_q rfl (op_field_hpt (o := 0) (by kernel_rfl) rfl ?_)
              refine G_r rfl (op_load_hpt (t := 87) (enc := fEnc) (H := (Z ++ [z0])) (a := .exact (gi (Z ++ [z0]) (Z.length : Int)).1) (List.Mem.tail _ (List.Mem.tail _ (List.Mem.tail _ (List.Mem.tail _ (List.Mem.tail _ (List.Mem.tail _ (List.Mem.head _))))))) (by kernel_rfl) rfl rfl ?_)
              refine G_q rfl (op_move (av := .row 1 cU8 (y.take (y.length / 2))) rfl ?_)
              refine G_l rfl (op_appO (by kernel_rfl) rfl rfl dk_ocU8 (by show _ ≤ 137438953472; rw [dk_gil]; simp; omega) (fun v' => ?_))
              refine G_q rfl (op_nilC_ref rfl (by omega) ?_)
              refine G_q rfl (op_field_hpt (o := 0) (by kernel_rfl) rfl ?_)
              refine G_l rfl (opB_slO (List.Mem.head _) (fun hsl => opB_f6 (op_store_hpt (i := (Z.length : Int)) (o := 0) (z := (v', (gi (Z ++ [z0]) (Z.length : Int)).2.1 ++ (y.take (y.length / 2)), (gi (Z ++ [z0]) (Z.length : Int)).2.2)) (c' := [.exact v']) rfl rfl (CellsOf.sl hsl) (LEs.cons (AV.le_eq rfl) LEs.nil) (OneC.sl hsl OneC.nil) (by kernel_rfl) (Nat.le_of_ble_eq_true rfl) rfl ?_)))
              refine G_nil ?_
              refine kC_normal ?_
              refine k_seq ?_
              refine k_reg .free hmixP (by kernel_rfl) ?_
              refine G_q rfl (op_move (av := .exact (.int .i64 25)) rfl ?_)
              refine G_q rfl (op_assign (av := .exact (.int .i64 25)) rfl ?_)
              refine G_nil ?_
              refine kC_normal ?_
              refine k_ret ?_
              refine kP_any (endN (af' := (AF.put AF0 (some 6) (.exact (.int .i64 25)))) (σ' := [boxI 81 b [.exact (.int .i64 ((dkWr D).cap)), .exact (.map (some nb)), .exact (.map (some db)), .exact pv', .exact (.int .i64 ((dkWr D).wr)), .exact (.int .i64 ((dkWr D).fl)), .exact (.bool ((dkWr D).dn))], dM (hb ++ [fb]) nb (dkPf ([], s, (Z.length : Int)) D.names), dM (hb ++ [fb]) db D.dur, dP (hb ++ [fb]) pv' (D.pend ++ [([], s, (Z.length : Int))]), dH (hb ++ [fb]) ((Z ++ [z0]).set ((Z.length : Int)).toNat (v', (gi (Z ++ [z0]) (Z.length : Int)).2.1 ++ (y.take (y.length / 2)), (gi (Z ++ [z0]) (Z.length : Int)).2.2)), dVs ((Z ++ [z0]).set ((Z.length : Int)).toNat (v', (gi (Z ++ [z0]) (Z.length : Int)).2.1 ++ (y.take (y.length / 2)), (gi (Z ++ [z0]) (Z.length : Int)).2.2))]) _ rfl (SubU.to (SubU.trans SubU.f2 (SubU.trans SubU.f2 (SubU.trans (SubU.putG (f := dV) (x := (v', (gi (Z ++ [z0]) (Z.length : Int)).2.1 ++ (y.take (y.length / 2)), (gi (Z ++ [z0]) (Z.length : Int)).2.2)) hz.1 hz.2) (SubU.trans SubU.f1 (SubU.trans SubU.f4 (SubU.trans SubU.f5 (SubU.trans SubU.f5 (SubU.trans SubU.f5 (SubU.of_le (AF.le_put (AV.le_eq rfl) (AF.le_top _)))))))))))) ?_)
              refine ⟨hb ++ [fb], db, pv', (Z ++ [z0]).set ((Z.length : Int)).toNat (v', (gi (Z ++ [z0]) (Z.length : Int)).2.1 ++ (y.take (y.length / 2)), (gi (Z ++ [z0]) (Z.length : Int)).2.2), ?_, rfl, ?_⟩
              · dsimp only; rw [hZ, dk_newf]
              · unfold dIts; dsimp only; rw [dk_pfn (by omega), hZ, List.length_map]; rfl
            · refine k_skip ?_
              refine kC_normal ?_
              refine k_seq ?_
              refine k_seq ?_
              have hby : dkBy D y = (y, 0) := by unfold dkBy; rw [if_neg (by simpa using hc7)]
              rw [hby] at h
              rw [if_pos hc3] at h
              obtain ⟨hpl, h⟩ := need_some h
              cases h
              refine k_reg .free hmixP (by kernel_rfl) ?_
              refine G_q rfl (op_move (av := refA hb ((lookL D.names s).getD (-1))) rfl ?_)
              refine G_q rfl (op_eqnil_ref (t := 87) (by kernel_rfl) (by kernel_rfl) rfl rfl ?_)
              refine G_nil ?_
              refine kC_normal ?_
              refine k_cond_d (p := ((lookL D.names s).getD (-1)) = -1) rfl (fun _ => ?_) (fun hc9 => absurd hc3 hc9)
              refine k_seq ?_
              refine k_reg .free hmixP (by kernel_rfl) ?_
              refine G_q rfl (op_bld (c' := [.exact (.slice none 0 0), .exact (.int .i64 0)]) CellsAll.nil rfl (LEs.cons (AV.le_eq rfl) (LEs.cons (AV.le_eq rfl) LEs.nil)) ?_)
              refine G_l rfl (op_boxI (c := [.exact (.slice none 0 0), .exact (.int .i64 0)]) rfl CellsOf.agg (LEs.cons (AV.le_eq rfl) (LEs.cons (AV.le_eq rfl) LEs.nil)) (fun fb => ?_))
              refine G_q rfl (op_assign (av := pA fb 0) rfl ?_)
              refine G_nil ?_
              refine kC_normal ?_
              refine k_reg .free hmixP (by kernel_rfl) ?_
              refine G_sub rfl (SubU.trans SubU.f3 (SubU.trans SubU.f1 (SubU.trans (SubU.addHeap (s := 7) (x := z0) (enc' := fEnc) rfl (LEs.cons (AV.le_eq rfl) (LEs.cons (AV.le_eq rfl) LEs.nil)) (fun _ => (LEs.cons (AV.le_eq rfl) (LEs.cons (AV.le_eq rfl) LEs.nil)))) (SubU.trans SubU.f2 (SubU.trans (SubU.mapLe (vv' := fun x : Int => refA (hb ++ [fb]) x) (fun _ => refA_mono)) (SubU.trans SubU.f4 (SubU.trans (SubU.mapLe (vv' := fun x : Int => refA (hb ++ [fb]) x) (fun _ => refA_mono)) (SubU.trans SubU.f5 (SubU.trans (SubU.vecLe (enc' := opE (hb ++ [fb])) (fun _ => LEs.cons (AV.le_eq rfl) (LEs.cons (AV.le_eq rfl) (LEs.cons refA_mono LEs.nil)))) (SubU.trans SubU.f5 ((SubU.addNil (f := dV) (x := z0) dV_own dV_nil)))))))))))) ?_
              refine G_q rfl (op_move (av := pA b 0) rfl ?_)
              refine G_q rfl (op_move (av := .exact (.string (bs s))) rfl ?_)
              refine G_q rfl (op_move (av := refA (hb ++ [fb]) (Z.length : Int)) rfl ?_)
              refine G_q rfl (op_bld (c' := [.exact (.string (bs [])), .exact (.string (bs s)), refA (hb ++ [fb]) (Z.length : Int)]) (CellsAll.cons rfl CellsOf.str (CellsAll.cons rfl CellsOf.ref CellsAll.nil)) rfl (LEs.cons (AV.le_eq rfl) (LEs.cons (AV.le_eq rfl) (LEs.cons (AV.le_eq rfl) LEs.nil))) ?_)
              refine G_l rfl (opB_f1 (opB_f3 (opB_f5 (op_fun_3_1_3 (dk_change [] s (Z.length : Int) (dkWr D) hpl) Try.func57 (by kernel_rfl) (LEs.cons (AV.le_eq rfl) (LEs.cons (AV.le_eq rfl) LEs.nil)) (fun pv' => ?_)))))
              refine G_nil ?_
              refine kC_normal ?_
              refine k_seq ?_
              refine k_reg .free hmixP (by kernel_rfl) ?_
              have hz : 0 ≤ (Z.length : Int) ∧ (Z.length : Int) < (((Z ++ [z0]).length : Nat) : Int) := by rw [List.length_append, List.length_singleton]; omega
              refine G_sub rfl (SubU.trans SubU.f3 (SubU.takeG (f := dV) hz.1 hz.2)) ?_
              refine G_q rfl (op_move (av := refA (hb ++ [fb]) (Z.length : Int)) rfl ?_)
              refine G_q rfl (op_move (av := refA (hb ++ [fb]) (Z.length : Int)) rfl ?_)
              refine G_q rfl (op_nilC_ref rfl (by omega) ?_)
              refine G_q rfl (op_field_hpt (o := 0) (by kernel_rfl) rfl ?_)
              refine G_r rfl (op_load_hpt (t := 87) (enc := fEnc) (H := (Z ++ [z0])) (a := .exact (gi (Z ++ [z0]) (Z.length : Int)).1) (List.Mem.tail _ (List.Mem.tail _ (List.Mem.tail _ (List.Mem.tail _ (List.Mem.tail _ (List.Mem.tail _ (List.Mem.head _))))))) (by kernel_rfl) rfl rfl ?_)
              refine G_q rfl (op_move (av := .row 1 cU8 y) rfl ?_)
              refine G_l rfl (op_appO (by kernel_rfl) rfl rfl dk_ocU8 (by show _ ≤ 137438953472; rw [dk_gil]; simp; omega) (fun v' => ?_))
              refine G_q rfl (op_nilC_ref rfl (by omega) ?_)
              refine G_q rfl (op_field_hpt (o := 0) (by kernel_rfl) rfl ?_)
              refine G_l rfl (opB_slO (List.Mem.head _) (fun hsl => opB_f6 (op_store_hpt (i := (Z.length : Int)) (o := 0) (z := (v', (gi (Z ++ [z0]) (Z.length : Int)).2.1 ++ y, (gi (Z ++ [z0]) (Z.length : Int)).2.2)) (c' := [.exact v']) rfl rfl (CellsOf.sl hsl) (LEs.cons (AV.le_eq rfl) LEs.nil) (OneC.sl hsl OneC.nil) (by kernel_rfl) (Nat.le_of_ble_eq_true rfl) rfl ?_)))
              refine G_nil ?_
              refine kC_normal ?_
              refine k_seq ?_
              refine k_reg .free hmixP (by kernel_rfl) ?_
              refine G_q rfl (op_move (av := .exact (.int .i64 0)) rfl ?_)
              refine G_q rfl (op_assign (av := .exact (.int .i64 0)) rfl ?_)
              refine G_nil ?_
              refine kC_normal ?_
              refine k_ret ?_
              refine kP_any (endN (af' := (AF.put AF0 (some 6) (.exact (.int .i64 0)))) (σ' := [boxI 81 b [.exact (.int .i64 ((dkWr D).cap)), .exact (.map (some nb)), .exact (.map (some db)), .exact pv', .exact (.int .i64 ((dkWr D).wr)), .exact (.int .i64 ((dkWr D).fl)), .exact (.bool ((dkWr D).dn))], dM (hb ++ [fb]) nb (dkPf ([], s, (Z.length : Int)) D.names), dM (hb ++ [fb]) db D.dur, dP (hb ++ [fb]) pv' (D.pend ++ [([], s, (Z.length : Int))]), dH (hb ++ [fb]) ((Z ++ [z0]).set ((Z.length : Int)).toNat (v', (gi (Z ++ [z0]) (Z.length : Int)).2.1 ++ y, (gi (Z ++ [z0]) (Z.length : Int)).2.2)), dVs ((Z ++ [z0]).set ((Z.length : Int)).toNat (v', (gi (Z ++ [z0]) (Z.length : Int)).2.1 ++ y, (gi (Z ++ [z0]) (Z.length : Int)).2.2))]) _ rfl (SubU.to (SubU.trans SubU.f2 (SubU.trans SubU.f2 (SubU.trans (SubU.putG (f := dV) (x := (v', (gi (Z ++ [z0]) (Z.length : Int)).2.1 ++ y, (gi (Z ++ [z0]) (Z.length : Int)).2.2)) hz.1 hz.2) (SubU.trans SubU.f1 (SubU.trans SubU.f4 (SubU.trans SubU.f5 (SubU.trans SubU.f5 (SubU.trans SubU.f5 (SubU.of_le (AF.le_put (AV.le_eq rfl) (AF.le_top _)))))))))))) ?_)
              refine ⟨hb ++ [fb], db, pv', (Z ++ [z0]).set ((Z.length : Int)).toNat (v', (gi (Z ++ [z0]) (Z.length : Int)).2.1 ++ y, (gi (Z ++ [z0]) (Z.length : Int)).2.2), ?_, rfl, ?_⟩
              · dsimp only; rw [hZ, dk_newf]
              · unfold dIts; dsimp only; rw [dk_pfn (by omega), hZ, List.length_map]; rfl
      · refine G_n rfl rfl ?_
        refine G_n rfl rfl ?_
        refine G_n rfl rfl ?_
        refine G_n rfl rfl ?_
        refine G_n rfl rfl ?_
        refine G_n rfl rfl ?_
        refine G_q rfl (op_pick_f rfl (av := .exact (.bool false)) rfl ?_)
        refine G_q rfl (op_assign (av := .exact (.bool false)) rfl ?_)
        refine G_nil ?_
        refine kC_normal ?_
        refine k_cond_f rfl ?_
        rw [if_neg hc1, if_neg hc2, if_neg (by omega)] at h
        obtain ⟨u, hu, h⟩ := bnd1_some h
        refine k_plan [dB b nb db pv D] [(0, 0), (0, 1), (0, 2), (0, 3), (0, 4), (4, 5), (0, 6), (3, 7), (0, 8), (0, 9), (0, 10)] hmixP (by kernel_rfl) ?_
        refine P_q no34_0 rfl (op_move (av := .row 1 cU8 y) rfl ?_)
        refine P_q no34_0 rfl (op_len_row (by kernel_rfl) rfl ?_)
        refine P_q no34_0 rfl (op_move (av := pA b 0) rfl ?_)
        refine P_q no34_0 rfl (op_nilCheck rfl ?_)
        refine P_q no34_0 rfl (op_fieldAddr (o := 0) (by kernel_rfl) rfl ?_)
        refine P_r4 (Has.cons (List.Mem.head _) Has.mk0) rfl (opI_mk (List.Mem.head _) (fun _ => op_load_box1 (a := .exact (.int .i64 D.cap)) (by kernel_rfl) rfl rfl rfl) ?_)
        refine P_q no34_0 rfl (op_move (av := pA b 0) rfl ?_)
        refine P_l3 rfl (opB_f5 (opB_f5 (opB_f3 (opB_f3 (op_fun_4_0_4 (dk_used D hZ u hu) Try.func55 (by kernel_rfl) (LEs.cons (AV.le_eq rfl) LEs.nil) ⟨Has.cons (List.Mem.head _) Has.mk0, ?_⟩)))))
        refine P_q no34_0 rfl (op_sub rfl rfl rfl ?_)
        refine P_q no34_0 rfl (op_gtr rfl rfl ?_)
        refine P_q no34_0 rfl (op_assign (av := .exact (.bool (decide ((i64 (D.cap - u)) < (List.length y : Int))))) rfl ?_)
        refine P_nil ?_
        refine kC_normal ?_
        refine k_cond_d (p := (i64 (D.cap - u)) < (List.length y : Int)) rfl (fun hc11 => ?_) (fun hc11 => ?_)
        · refine k_seq ?_
          refine k_reg .free hmixP (by kernel_rfl) ?_
          refine G_q rfl (op_assign (av := .exact (.int .i64 10)) rfl ?_)
          refine G_nil ?_
          refine kC_normal ?_
          refine k_ret ?_
          refine kB_ret ?_
          refine kC_ret ?_
          rw [if_pos hc11] at h
          cases h
          refine kP_any (endN (af' := (AF.put AF0 (some 6) (.exact (.int .i64 10)))) (σ' := [boxI 81 b [.exact (.int .i64 D.cap), .exact (.map (some nb)), .exact (.map (some db)), .exact pv, .exact (.int .i64 D.wr), .exact (.int .i64 D.fl), .exact (.bool D.dn)], dM hb nb D.names, dM hb db D.dur, dP hb pv D.pend, dH hb Z, dVs Z]) _ rfl (SubU.to (SubU.trans SubU.f3 (SubU.trans SubU.f3 (SubU.trans SubU.f5 (SubU.trans SubU.f5 (SubU.trans SubU.f5 (SubU.trans SubU.f5 (SubU.of_le (AF.le_put (AV.le_eq rfl) (AF.le_top _)))))))))) ?_)
          exact ⟨hb, db, pv, Z, hZ, rfl, rfl⟩
        · refine k_skip ?_
          refine kB_normal ?_
          refine kC_normal ?_
          refine k_seq ?_
          rw [if_neg hc11] at h
          obtain ⟨hy, h⟩ := need_some h
          refine k_reg .free hmixP (by kernel_rfl) ?_
          refine G_q rfl (op_assign (av := .exact (.int .i64 0)) rfl ?_)
          refine G_nil ?_
          refine kC_normal ?_
          refine k_seq ?_
          refine k_seq ?_
          refine k_reg .free hmixP (by kernel_rfl) ?_
          refine G_q rfl (op_move (av := pA b 0) rfl ?_)
          refine G_l rfl (op_fun_1_0_1 (dk_write D) Try.func56 (by kernel_rfl) (LEs.cons (AV.le_eq rfl) LEs.nil) ?_)
          refine G_q rfl (op_not rfl ?_)
          refine G_nil ?_
          refine kC_normal ?_
          refine k_cond_b (c := !(!(dkWr D).dn)) rfl (fun hc12 => ?_) (fun hc12 => ?_)
          · refine k_reg .free hmixP (by kernel_rfl) ?_
            refine G_q rfl (op_move (av := .row 1 cU8 y) rfl ?_)
            refine G_q rfl (op_move (av := .row 1 cU8 y) rfl ?_)
            refine G_q rfl (op_len_row (by kernel_rfl) rfl ?_)
            refine G_q rfl (op_quo rfl rfl (by decide) (dk_half hy) ?_)
            refine G_q rfl (op_slice_rowt (by kernel_rfl) rfl bnd_none (bnd_some rfl) (Int.le_refl _) (by omega) (by omega) ?_)
            refine G_q rfl (op_assign (av := .row 1 cU8 (y.take (y.length / 2))) rfl ?_)
            refine G_q rfl (op_assign (av := .exact (.int .i64 25)) rfl ?_)
            refine G_nil ?_
            refine kC_normal ?_
            refine k_seq ?_
            refine k_seq ?_
            have hby : dkBy D y = (y.take (y.length / 2), 25) := by unfold dkBy; rw [if_pos (by simpa using hc12)]
            rw [hby] at h
            rw [if_neg hc3] at h
            obtain ⟨n1, h⟩ := need_some h
            have hr : 0 ≤ (lookL D.names s).getD (-1) ∧ (lookL D.names s).getD (-1) < (Z.length : Int) := by rw [hZ, List.length_map] at n1; exact n1
            obtain ⟨n2, h⟩ := need_some h
            rw [hZ, gi_map hr.1 hr.2] at n2
            cases h
            refine k_reg .free hmixP (by kernel_rfl) ?_
            refine G_q rfl (op_move (av := refA hb ((lookL D.names s).getD (-1))) rfl ?_)
            refine G_q rfl (op_eqnil_ref (t := 87) (by kernel_rfl) (by kernel_rfl) rfl rfl ?_)
            refine G_nil ?_
            refine kC_normal ?_
            refine k_cond_d (p := ((lookL D.names s).getD (-1)) = -1) rfl (fun hc13 => absurd hc13 hc3) (fun _ => ?_)
            refine k_skip ?_
            refine kC_normal ?_
            refine k_seq ?_
            refine k_reg .free hmixP (by kernel_rfl) ?_
            refine G_sub rfl (SubU.trans SubU.f3 (SubU.takeG (f := dV) hr.1 hr.2)) ?_
            refine G_q rfl (op_move (av := refA hb ((lookL D.names s).getD (-1))) rfl ?_)
            refine G_q rfl (op_move (av := refA hb ((lookL D.names s).getD (-1))) rfl ?_)
            refine G_q rfl (op_nilC_ref rfl (by omega) ?_)
            refine G_q rfl (op_field_hpt (o := 0) (by kernel_rfl) rfl ?_)
            refine G_r rfl (op_load_hpt (t := 87) (enc := fEnc) (H := Z) (a := .exact (gi Z ((lookL D.names s).getD (-1))).1) (List.Mem.tail _ (List.Mem.tail _ (List.Mem.tail _ (List.Mem.tail _ (List.Mem.head _))))) (by kernel_rfl) rfl rfl ?_)
            refine G_q rfl (op_move (av := .row 1 cU8 (y.take (y.length / 2))) rfl ?_)
            refine G_l rfl (op_appO (by kernel_rfl) rfl rfl dk_ocU8 (by show _ ≤ 137438953472; exact n2) (fun v' => ?_))
            refine G_q rfl (op_nilC_ref rfl (by omega) ?_)
            refine G_q rfl (op_field_hpt (o := 0) (by kernel_rfl) rfl ?_)
            refine G_l rfl (opB_slO (List.Mem.head _) (fun hsl => opB_f4 (op_store_hpt (i := ((lookL D.names s).getD (-1))) (o := 0) (z := (v', (gi Z ((lookL D.names s).getD (-1))).2.1 ++ (y.take (y.length / 2)), (gi Z ((lookL D.names s).getD (-1))).2.2)) (c' := [.exact v']) rfl rfl (CellsOf.sl hsl) (LEs.cons (AV.le_eq rfl) LEs.nil) (OneC.sl hsl OneC.nil) (by kernel_rfl) (Nat.le_of_ble_eq_true rfl) rfl ?_)))
            refine G_nil ?_
            refine kC_normal ?_
            refine k_seq ?_
            refine k_reg .free hmixP (by kernel_rfl) ?_
            refine G_q rfl (op_move (av := .exact (.int .i64 25)) rfl ?_)
            refine G_q rfl (op_assign (av := .exact (.int .i64 25)) rfl ?_)
            refine G_nil ?_
            refine kC_normal ?_
            refine k_ret ?_
            refine kP_any (endN (af' := (AF.put AF0 (some 6) (.exact (.int .i64 25)))) (σ' := [boxI 81 b [.exact (.int .i64 ((dkWr D).cap)), .exact (.map (some nb)), .exact (.map (some db)), .exact pv, .exact (.int .i64 ((dkWr D).wr)), .exact (.int .i64 ((dkWr D).fl)), .exact (.bool ((dkWr D).dn))], dM hb nb D.names, dM hb db D.dur, dP hb pv D.pend, dH hb (Z.set (((lookL D.names s).getD (-1))).toNat (v', (gi Z ((lookL D.names s).getD (-1))).2.1 ++ (y.take (y.length / 2)), (gi Z ((lookL D.names s).getD (-1))).2.2)), dVs (Z.set (((lookL D.names s).getD (-1))).toNat (v', (gi Z ((lookL D.names s).getD (-1))).2.1 ++ (y.take (y.length / 2)), (gi Z ((lookL D.names s).getD (-1))).2.2))]) _ rfl (SubU.to (SubU.trans SubU.f2 (SubU.trans SubU.f2 (SubU.trans (SubU.putG (f := dV) (x := (v', (gi Z ((lookL D.names s).getD (-1))).2.1 ++ (y.take (y.length / 2)), (gi Z ((lookL D.names s).getD (-1))).2.2)) hr.1 hr.2) (SubU.trans SubU.f1 (SubU.trans SubU.f5 (SubU.trans SubU.f5 (SubU.trans SubU.f5 (SubU.trans SubU.f5 (SubU.of_le (AF.le_put (AV.le_eq rfl) (AF.le_top _)))))))))))) ?_)
            refine ⟨hb, db, pv, Z.set (((lookL D.names s).getD (-1))).toNat (v', (gi Z ((lookL D.names s).getD (-1))).2.1 ++ (y.take (y.length / 2)), (gi Z ((lookL D.names s).getD (-1))).2.2), ?_, rfl, rfl⟩
            dsimp only; rw [hZ, List.map_set, gi_map hr.1 hr.2]
          · refine k_skip ?_
            refine kC_normal ?_
            refine k_seq ?_
            refine k_seq ?_
            have hby : dkBy D y = (y, 0) := by unfold dkBy; rw [if_neg (by simpa using hc12)]
            rw [hby] at h
            rw [if_neg hc3] at h
            obtain ⟨n1, h⟩ := need_some h
            have hr : 0 ≤ (lookL D.names s).getD (-1) ∧ (lookL D.names s).getD (-1) < (Z.length : Int) := by rw [hZ, List.length_map] at n1; exact n1
            obtain ⟨n2, h⟩ := need_some h
            rw [hZ, gi_map hr.1 hr.2] at n2
            cases h
            refine k_reg .free hmixP (by kernel_rfl) ?_
            refine G_q rfl (op_move (av := refA hb ((lookL D.names s).getD (-1))) rfl ?_)
            refine G_q rfl (op_eqnil_ref (t := 87) (by kernel_rfl) (by kernel_rfl) rfl rfl ?_)
            refine G_nil ?_
            refine kC_normal ?_
            refine k_cond_d (p := ((lookL D.names s).getD (-1)) = -1) rfl (fun hc14 => absurd hc14 hc3) (fun _ => ?_)
            refine k_skip ?_
            refine kC_normal ?_
            refine k_seq ?_
            refine k_reg .free hmixP (by kernel_rfl) ?_
            refine G_sub rfl (SubU.trans SubU.f3 (SubU.takeG (f := dV) hr.1 hr.2)) ?_
            refine G_q rfl (op_move (av := refA hb ((lookL D.names s).getD (-1))) rfl ?_)
            refine G_q rfl (op_move (av := refA hb ((lookL D.names s).getD (-1))) rfl ?_)
            refine G_q rfl (op_nilC_ref rfl (by omega) ?_)
            refine G_q rfl (op_field_hpt (o := 0) (by kernel_rfl) rfl ?_)
            refine G_r rfl (op_load_hpt (t := 87) (enc := fEnc) (H := Z) (a := .exact (gi Z ((lookL D.names s).getD (-1))).1) (List.Mem.tail _ (List.Mem.tail _ (List.Mem.tail _ (List.Mem.tail _ (List.Mem.head _))))) (by kernel_rfl) rfl rfl ?_)
            refine G_q rfl (op_move (av := .row 1 cU8 y) rfl ?_)
            refine G_l rfl (op_appO (by kernel_rfl) rfl rfl dk_ocU8 (by show _ ≤ 137438953472; exact n2) (fun v' => ?_))
            refine G_q rfl (op_nilC_ref rfl (by omega) ?_)
            refine G_q rfl (op_field_hpt (o := 0) (by kernel_rfl) rfl ?_)
            refine G_l rfl (opB_slO (List.Mem.head _) (fun hsl => opB_f4 (op_store_hpt (i := ((lookL D.names s).getD (-1))) (o := 0) (z := (v', (gi Z ((lookL D.names s).getD (-1))).2.1 ++ y, (gi Z ((lookL D.names s).getD (-1))).2.2)) (c' := [.exact v']) rfl rfl (CellsOf.sl hsl) (LEs.cons (AV.le_eq rfl) LEs.nil) (OneC.sl hsl OneC.nil) (by kernel_rfl) (Nat.le_of_ble_eq_true rfl) rfl ?_)))
            refine G_nil ?_
            refine kC_normal ?_
            refine k_seq ?_
            refine k_reg .free hmixP (by kernel_rfl) ?_
            refine G_q rfl (op_move (av := .exact (.int .i64 0)) rfl ?_)
            refine G_q rfl (op_assign (av := .exact (.int .i64 0)) rfl ?_)
            refine G_nil ?_
            refine kC_normal ?_
            refine k_ret ?_
            refine kP_any (endN (af' := (AF.put AF0 (some 6) (.exact (.int .i64 0)))) (σ' := [boxI 81 b [.exact (.int .i64 ((dkWr D).cap)), .exact (.map (some nb)), .exact (.map (some db)), .exact pv, .exact (.int .i64 ((dkWr D).wr)), .exact (.int .i64 ((dkWr D).fl)), .exact (.bool ((dkWr D).dn))], dM hb nb D.names, dM hb db D.dur, dP hb pv D.pend, dH hb (Z.set (((lookL D.names s).getD (-1))).toNat (v', (gi Z ((lookL D.names s).getD (-1))).2.1 ++ y, (gi Z ((lookL D.names s).getD (-1))).2.2)), dVs (Z.set (((lookL D.names s).getD (-1))).toNat (v', (gi Z ((lookL D.names s).getD (-1))).2.1 ++ y, (gi Z ((lookL D.names s).getD (-1))).2.2))]) _ rfl (SubU.to (SubU.trans SubU.f2 (SubU.trans SubU.f2 (SubU.trans (SubU.putG (f := dV) (x := (v', (gi Z ((lookL D.names s).getD (-1))).2.1 ++ y, (gi Z ((lookL D.names s).getD (-1))).2.2)) hr.1 hr.2) (SubU.trans SubU.f1 (SubU.trans SubU.f5 (SubU.trans SubU.f5 (SubU.trans SubU.f5 (SubU.trans SubU.f5 (SubU.of_le (AF.le_put (AV.le_eq rfl) (AF.le_top _)))))))))))) ?_)
            refine ⟨hb, db, pv, Z.set (((lookL D.names s).getD (-1))).toNat (v', (gi Z ((lookL D.names s).getD (-1))).2.1 ++ y, (gi Z ((lookL D.names s).getD (-1))).2.2), ?_, rfl, rfl⟩
            dsimp only; rw [hZ, List.map_set, gi_map hr.1 hr.2]
set_option maxHeartbeats 4000000 in
theorem dk_new (a : Int) (ha : 0 ≤ a ∧ a ≤ 4194304) : Fun Try.prog 21 [.exact (.int .i64 a)] [] (fun r σ => ∃ b nb db, r = .tup [pA b 0, .exact (.int .i64 0)] ∧ σ = dIts [] b nb db (.slice none 0 0) ⟨a, [], [], [], [], 0, 0, false⟩ []) := by
  refine fun_of_awp Try.func21 rfl Try.ntmps21 (by simp) rfl (res2 rfl) fun E hE => k_end ?_
  refine k_seq ?_
  refine k_reg .free hmixP (by kernel_rfl) ?_
  refine G_q rfl (op_assign (av := .exact (.pointer none)) rfl ?_)
  refine G_q rfl (op_assign (av := .exact (.int .i64 0)) rfl ?_)
  refine G_nil ?_
  refine kC_normal ?_
  refine k_seq ?_
  refine k_seq ?_
  refine k_reg .free hmixP (by kernel_rfl) ?_
  refine G_q rfl (op_move (av := .exact (.int .i64 a)) rfl ?_)
  refine G_q rfl (op_lss rfl rfl ?_)
  refine G_q rfl (op_move (av := .exact (.bool (decide (a < 0)))) rfl ?_)
  refine G_split (p := a < 0) 6 rfl (fun hc1 => ?_) (fun hc1 => ?_)
  · refine G_n rfl rfl ?_
    refine G_n rfl rfl ?_
    refine G_q rfl (op_pick_t rfl (av := .exact (.bool true)) rfl ?_)
    refine G_nil ?_
    refine kC_normal ?_
    refine k_cond_t rfl ?_
    refine k_seq ?_
    refine k_reg .free hmixP (by kernel_rfl) ?_
    refine G_q rfl (op_assign (av := .exact (.pointer none)) rfl ?_)
    refine G_q rfl (op_assign (av := .exact (.int .i64 1)) rfl ?_)
    refine G_nil ?_
    refine kC_normal ?_
    refine k_ret ?_
    refine kC_ret ?_
    exfalso; omega
  · refine Gy_q rfl rfl rfl (op_move (av := .exact (.int .i64 a)) rfl ?_)
    refine Gy_q rfl rfl rfl (op_gtr rfl rfl ?_)
    refine G_q rfl (op_pick_f rfl (av := .exact (.bool (decide (4194304 < a)))) rfl ?_)
    refine G_nil ?_
    refine kC_normal ?_
    refine k_cond_d (p := 4194304 < a) rfl (fun hc3 => ?_) (fun hc3 => ?_)
    · refine k_seq ?_
      refine k_reg .free hmixP (by kernel_rfl) ?_
      refine G_q rfl (op_assign (av := .exact (.pointer none)) rfl ?_)
      refine G_q rfl (op_assign (av := .exact (.int .i64 1)) rfl ?_)
      refine G_nil ?_
      refine kC_normal ?_
      refine k_ret ?_
      refine kC_ret ?_
      exfalso; omega
    · refine k_skip ?_
      refine kC_normal ?_
      refine k_seq ?_
      refine k_reg .free hmixP (by kernel_rfl) ?_
      refine G_q rfl (op_move (av := .exact (.int .i64 a)) rfl ?_)
      refine G_l rfl (op_mnew (V := (fun _ => True)) (kv := (fun k : List UInt8 => .string (bs k))) (vv := (fun x : Int => refA [] x)) (fun nb => ?_))
      refine G_l rfl (op_mnew (V := (fun _ => True)) (kv := (fun k : List UInt8 => .string (bs k))) (vv := (fun x : Int => refA [] x)) (fun db => ?_))
      refine G_q rfl (op_bld (c' := [.exact (.int .i64 a), .exact (.map (some nb)), .exact (.map (some db)), .exact (.slice none 0 0), .exact (.int .i64 0), .exact (.int .i64 0), .exact (.bool false)]) (CellsAll.cons rfl CellsOf.int (CellsAll.cons rfl CellsOf.mapz (CellsAll.cons rfl CellsOf.mapz CellsAll.nil))) rfl (LEs.cons (AV.le_eq rfl) (LEs.cons (AV.le_eq rfl) (LEs.cons (AV.le_eq rfl) (LEs.cons (AV.le_eq rfl) (LEs.cons (AV.le_eq rfl) (LEs.cons (AV.le_eq rfl) (LEs.cons (AV.le_eq rfl) LEs.nil))))))) ?_)
      refine G_l rfl (op_boxI (c := [.exact (.int .i64 a), .exact (.map (some nb)), .exact (.map (some db)), .exact (.slice none 0 0), .exact (.int .i64 0), .exact (.int .i64 0), .exact (.bool false)]) rfl CellsOf.agg (LEs.cons (AV.le_eq rfl) (LEs.cons (AV.le_eq rfl) (LEs.cons (AV.le_eq rfl) (LEs.cons (AV.le_eq rfl) (LEs.cons (AV.le_eq rfl) (LEs.cons (AV.le_eq rfl) (LEs.cons (AV.le_eq rfl) LEs.nil))))))) (fun b => ?_))
      refine G_q rfl (op_assign (av := pA b 0) rfl ?_)
      refine G_q rfl (op_assign (av := .exact (.int .i64 0)) rfl ?_)
      refine G_nil ?_
      refine kC_normal ?_
      refine k_ret ?_
      refine kP_any (endN (af' := (AF.put (AF.put AF0 (some 2) (pA b 0)) (some 3) (.exact (.int .i64 0)))) (σ' := [boxI 81 b [.exact (.int .i64 a), .exact (.map (some nb)), .exact (.map (some db)), .exact (.slice none 0 0), .exact (.int .i64 0), .exact (.int .i64 0), .exact (.bool false)], dM [] nb [], dM [] db [], dP [] (.slice none 0 0) [], dH [] [], dVs []]) _ rfl (SubU.to (SubU.trans SubU.f1 (SubU.trans SubU.f2 (SubU.trans SubU.f2 (SubU.trans (SubU.nilT (P := Try.prog) (t := 79) (n := 3) (enc := opE [])) (SubU.trans (SubU.newHeap (α := DkZ) (t := 87) (enc := fEnc) (bs := []) rfl) (SubU.trans SubU.newVs (SubU.trans SubU.f1 (SubU.trans SubU.f2 (SubU.trans SubU.f5 (SubU.trans SubU.f5 (SubU.trans SubU.f5 (SubU.of_le (AF.le_put (AV.le_eq rfl) (AF.le_put (AV.le_eq rfl) (AF.le_top _)))))))))))))))) ?_)
      exact ⟨b, nb, db, rfl, rfl⟩
set_option maxHeartbeats 4000000 in
theorem dk_writes {b nb db : Nat} {pv : Value} (D : Dk) : Fun Try.prog 32 [pA b 0] [dB b nb db pv D] (fun a s => a = .exact (.int .i64 D.wr) ∧ s = [dB b nb db pv D]) := by
  refine fun_of_awp Try.func32 rfl Try.ntmps32 (by simp) rfl (res1 rfl) fun E hE => k_end ?_
  refine k_seq ?_
  refine k_reg .free hmixP (by kernel_rfl) ?_
  refine G_q rfl (op_assign (av := .exact (.int .i64 0)) rfl ?_)
  refine G_nil ?_
  refine kC_normal ?_
  refine k_seq ?_
  refine k_reg .free hmixP (by kernel_rfl) ?_
  refine G_q rfl (op_move (av := pA b 0) rfl ?_)
  refine G_q rfl (op_nilCheck rfl ?_)
  refine G_q rfl (op_fieldAddr (o := 4) (by kernel_rfl) rfl ?_)
  refine G_r rfl (op_load_box1 (a := .exact (.int .i64 D.wr)) (by kernel_rfl) rfl rfl ?_)
  refine G_q rfl (op_assign (av := .exact (.int .i64 D.wr)) rfl ?_)
  refine G_nil ?_
  refine kC_normal ?_
  refine k_ret ?_
  refine kP_any (endN (af' := (AF.put AF0 (some 2) (.exact (.int .i64 D.wr)))) (σ' := [boxI 81 b [.exact (.int .i64 D.cap), .exact (.map (some nb)), .exact (.map (some db)), .exact pv, .exact (.int .i64 D.wr), .exact (.int .i64 D.fl), .exact (.bool D.dn)]]) _ rfl (Sub.of_le (AF.le_put (AV.le_eq rfl) (AF.le_top _))) ?_)
  exact ⟨rfl, rfl⟩
end Go.Proofs.Ytkplmgdmkfgjhaa
/- A disk as one thing in use. -/
namespace Go.Proofs.Ytkplmgdmkfgjhaa
open Go.RowKit Go.Maps
theorem dsk_operm {σ σ' : Items} (ho : (σ'.flatMap Item.own).Perm (σ.flatMap Item.own)) (k : Nat) : Items.own σ' k ↔ Items.own σ k := ho.mem_iff
/-- The disk at block b, which owns the blocks o besides. -/
def dskI (b : Nat) (o : List Nat) (D : Dk) : Item where
  own := b :: o
  p := fun M w => ∃ (hb : List Nat) (nb db : Nat) (pv : Value) (Z : List DkZ), D.files = Z.map (·.2) ∧ b :: o = (dIts hb b nb db pv D Z).flatMap Item.own ∧ ∀ it ∈ dIts hb b nb db pv D Z, it.p M w
  keep := fun {M M' w w'} hk hm ⟨hb, nb, db, pv, Z, h1, h2, h3⟩ => ⟨hb, nb, db, pv, Z, h1, h2, fun it hi => it.keep (hk.mono (fun k _ h => ⟨h.1, fun hn => h.2 (by rw [h2]; exact List.mem_flatMap.2 ⟨it, hi, hn⟩)⟩)) hm (h3 it hi)⟩
theorem dsk_own {hb : List Nat} {b nb db : Nat} {pv : Value} {D : Dk} {Z : List DkZ} : (dIts hb b nb db pv D Z).flatMap Item.own = b :: ([dM hb nb D.names, dM hb db D.dur, dP hb pv D.pend, dH hb Z, dVs Z] : Items).flatMap Item.own := rfl
theorem Good.dsk {F : BSet} {w : World} {hb : List Nat} {b nb db : Nat} {pv : Value} {D : Dk} {Z : List DkZ} (hZ : D.files = Z.map (·.2)) (h : Good F (dIts hb b nb db pv D Z) w) : ∃ o, Good F [dskI b o D] w ∧ ([dskI b o D].flatMap Item.own).Perm ((dIts hb b nb db pv D Z).flatMap Item.own) := by
  have hp : ([dskI b (([dM hb nb D.names, dM hb db D.dur, dP hb pv D.pend, dH hb Z, dVs Z] : Items).flatMap Item.own) D].flatMap Item.own).Perm ((dIts hb b nb db pv D Z).flatMap Item.own) := by
    rw [dsk_own, List.flatMap_cons, List.flatMap_nil, List.append_nil]; exact .refl _
  exact ⟨_, h.repack hp (fun M hi it hit => by
    rw [List.mem_singleton.1 hit]
    exact ⟨hb, nb, db, pv, Z, hZ, dsk_own.symm, hi⟩), hp⟩
theorem Fun.dsk {P : Program} {f : FuncId} {args : List AV} {r : AV} {b : Nat} {o : List Nat} {D D' : Dk} (h : ∀ hb nb db pv Z, D.files = Z.map (·.2) → Fun P f args (dIts hb b nb db pv D Z) (fun a σ => ∃ hb' nb' db' pv' Z', D'.files = Z'.map (·.2) ∧ a = r ∧ σ = dIts hb' b nb' db' pv' D' Z')) :
    Fun P f args [dskI b o D] (fun a s => ∃ o', a = r ∧ s = [dskI b o' D']) := by
  intro F w vs hg hfit
  obtain ⟨hb, nb, db, pv, Z, h1, h2, h3⟩ := hg.items (dskI b o D) List.mem_cons_self
  have hperm : ((dIts hb b nb db pv D Z).flatMap Item.own).Perm ([dskI b o D].flatMap Item.own) := by
    rw [← h2, List.flatMap_cons, List.flatMap_nil, List.append_nil]; exact .refl _
  have hg2 : Good F (dIts hb b nb db pv D Z) w := by
    have hM : ∀ k, k < w.heap.size → both F (Items.own (dIts hb b nb db pv D Z)) k → both F (Items.own [dskI b o D]) k := fun k _ h => h.imp id (dsk_operm hperm k).1
    exact ⟨hg.fr, fun k hk => hg.own k ((dsk_operm hperm k).1 hk), hperm.nodup_iff.2 hg.nodup, fun it hi => it.keep (Keeps.refl _ _) hM (h3 it hi)⟩
  refine (h hb nb db pv Z h1 F w vs hg2 (hfit.keep (Keeps.refl _ _) (fun k _ hk => hk.imp id (dsk_operm hperm k).1))).mono ?_
  rintro e w' ⟨v, he, av, σ', ⟨hb', nb', db', pv', Z', g1, rfl, rfl⟩, g4, g5, g6, g7⟩
  obtain ⟨o', q1, q2⟩ := g4.dsk g1
  exact ⟨v, he, _, _, ⟨o', rfl, rfl⟩, q1, g5.mono (fun k _ hk => (dsk_operm hperm k).1 hk), fun k hk hlt => (dsk_operm hperm k).1 (g6 k ((dsk_operm q2 k).1 hk) hlt), av.keep (Keeps.refl _ _) (fun k _ hk => hk.imp id (dsk_operm q2 k).1) g7⟩
theorem m_disk_Append_ok {w0 : Nat} {o0 : List Nat} (a0 : Dk) (a1 a2 : List UInt8) (r : Int × Dk) (h : m_disk_Append a0 a1 a2 = some r) : Fun Try.prog 27 [pA w0 0, .exact (.string (bs a1)), .row 1 cU8 a2] [dskI w0 o0 a0] (fun a s => ∃ o', a = .exact (.int .i64 r.1) ∧ s = [dskI w0 o' r.2]) :=
  Fun.dsk fun hb nb db pv Z hZ => fun F w vs hg hf => (dk_append a1 a2 a0 hZ r h F w vs hg hf).mono fun e w' ⟨v, he, av, σ', ⟨hb', db', pv', Z', g1, g2, g3⟩, k⟩ => ⟨v, he, av, σ', ⟨hb', nb, db', pv', Z', g1, g2, g3⟩, k⟩
theorem m_disk_Sync_ok {w0 : Nat} {o0 : List Nat} (a0 : Dk) (a1 : List UInt8) (r : Int × Dk) (h : m_disk_Sync a0 a1 = some r) : Fun Try.prog 50 [pA w0 0, .exact (.string (bs a1))] [dskI w0 o0 a0] (fun a s => ∃ o', a = .exact (.int .i64 r.1) ∧ s = [dskI w0 o' r.2]) :=
  Fun.dsk fun hb nb db pv Z hZ => fun F w vs hg hf => (dk_sync a1 a0 hZ r h F w vs hg hf).mono fun e w' ⟨v, he, av, σ', ⟨db', pv', Z', g1, g2, g3⟩, k⟩ => ⟨v, he, av, σ', ⟨hb, nb, db', pv', Z', g1, g2, g3⟩, k⟩
theorem m_disk_Read_ok {w0 : Nat} {o0 : List Nat} (a0 : Dk) (a1 : List UInt8) (r : List UInt8 × Int × Dk) (h : m_disk_Read a0 a1 = some r) : Fun Try.prog 26 [pA w0 0, .exact (.string (bs a1))] [dskI w0 o0 a0] (fun a s => ∃ o', a = .tup [.row 1 cU8 r.1, .exact (.int .i64 r.2.1)] ∧ s = [dskI w0 o' r.2.2]) :=
  Fun.dsk fun hb nb db pv Z hZ => fun F w vs hg hf => (dk_read a1 a0 hZ r h F w vs hg hf).mono fun e w' ⟨v, he, av, σ', ⟨g2, g3⟩, k⟩ => ⟨v, he, av, σ', ⟨hb, nb, db, pv, Z, by
    have h' := h
    unfold m_disk_Read at h'
    have : r.2.2 = a0 := by
      split at h'
      · cases h'; rfl
      · obtain ⟨_, h'⟩ := need_some h'
        obtain ⟨_, h'⟩ := need_some h'
        cases h'; rfl
    rw [this]; exact hZ, g2, g3⟩, k⟩
theorem m_disk_Writes_ok {w0 : Nat} {o0 : List Nat} (a0 : Dk) (r : Int × Dk) (h : m_disk_Writes a0 = some r) : Fun Try.prog 32 [pA w0 0] [dskI w0 o0 a0] (fun a s => ∃ o', a = .exact (.int .i64 r.1) ∧ s = [dskI w0 o' r.2]) := by
  cases h
  exact Fun.dsk fun hb nb db pv Z hZ => fun F w vs hg hf => ((dk_writes a0).frame [dM hb nb a0.names, dM hb db a0.dur, dP hb pv a0.pend, dH hb Z, dVs Z] F w vs hg hf).mono fun e w' ⟨v, he, av, σ', ⟨s', ⟨g2, g3⟩, g4⟩, k⟩ => ⟨v, he, av, σ', ⟨hb, nb, db, pv, Z, hZ, g2, by rw [g4, g3]; rfl⟩, k⟩
theorem m_disk_New_ok (a0 : Int) (r : Dk × Int) (h : m_disk_New a0 = some r) : Fun Try.prog 21 [.exact (.int .i64 a0)] [] (fun a s => ∃ b o, a = .tup [pA b 0, .exact (.int .i64 r.2)] ∧ s = [dskI b o r.1]) := by
  obtain ⟨ha, h⟩ := need_some h
  cases h
  intro F w vs hg hf
  refine (dk_new a0 ha F w vs hg hf).mono ?_
  rintro e w' ⟨v, he, av, σ', ⟨b, nb, db, rfl, rfl⟩, g4, g5, g6, g7⟩
  obtain ⟨o', q1, q2⟩ := Good.dsk (D := ⟨a0, [], [], [], [], 0, 0, false⟩) (by rfl) g4
  exact ⟨v, he, _, _, ⟨b, o', rfl, rfl⟩, q1, g5, fun k hk hlt => g6 k ((dsk_operm q2 k).1 hk) hlt, AV.keep _ (Keeps.refl _ _) (fun k _ hk => hk.imp id (dsk_operm q2 k).1) g7⟩
end Go.Proofs.Ytkplmgdmkfgjhaa
/- slices.Sort and slices.SortFunc on a row in use of one cell an element, by the shelf's contracts. -/
namespace Go.Proofs.Ytkplmgdmkfgjhaa
open Go.RowKit Go.Sort

section
variable {α : Type} [Inhabited α] {e : α → Value} {P : Program}
theorem take_putCells1 (D : Array α) (cur : Array Value) (h : D.size ≤ cur.size) : (putCells e 0 D cur).toList.take D.size = D.toList.map e := by
  apply List.ext_getElem?
  intro j
  by_cases hj : j < D.size
  · rw [List.getElem?_take_of_lt hj, Array.getElem?_toList]
    simp [putCells, hj, show j < cur.size by omega]
  · rw [List.getElem?_take_eq_none (by omega), List.getElem?_eq_none (by simp; omega)]
/-- A call that sorts a row in use. -/
theorem sort1_fun {f : Nat} {rs : List Value} {S : List α → List α} (hS : ∀ zs, (S zs).length = zs.length) {encA : α → List AV} (hA : ∀ x, encA x = [.exact (e x)])
    (hC : ∀ (b c : Nat) (zs : List α) (w : World), zs ≠ [] → Go.Sort.Holds e w b 0 zs.toArray → b < w.heap.size → zs.length < 4611686018427387904 →
      Calls P f (.slice (some ⟨b, 0, none⟩) zs.length c :: rs).toArray w fun x w' => x = .returned (.tuple #[]) ∧ ∃ n os, w' = sortWorld e w b 0 n (S zs).toArray os)
    (hN : ∀ (p : Option Addr) (c : Nat) (w : World), Calls P f (.slice p 0 c :: rs).toArray w fun x w' => x = .returned (.tuple #[]) ∧ w' = w)
    (v : Value) (xs : List α) (hl : xs.length < 4611686018427387904) (t : TypeId) :
    Fun P f (.exact v :: rs.map AV.exact) [vecT P t 1 encA v xs] (fun a s => a = .tup [] ∧ s = [vecT P t 1 encA v (S xs)]) := by
  intro F w vs hg hfit
  have hS0 : S [] = [] := List.length_eq_zero_iff.1 (hS [])
  match vs, hfit with
  | v' :: us, ⟨e1, e2⟩ =>
  have e3 : us = rs := fit_ex_eq e2
  have e4 : v' = v := e1
  clear e1 e2
  subst e3 e4
  by_cases hx : xs = []
  · subst hx
    obtain ⟨us, hown, hf⟩ := hg.items _ List.mem_cons_self
    have hv : ∃ p cap, v' = .slice p 0 cap := by
      rcases hown.2 with ⟨rfl, _⟩ | ⟨q, cap, cur, rfl, _⟩
      · exact ⟨none, 0, rfl⟩
      · exact ⟨_, cap, rfl⟩
    obtain ⟨p, cap, rfl⟩ := hv
    refine (hN p cap w).mono fun x w' ⟨he, hw⟩ => ?_
    subst hw
    refine ⟨_, he, _, _, ⟨rfl, rfl⟩, ?_, (Keeps.refl noB w').mono (fun _ _ h => h.elim), ?_, ⟨[], rfl, trivial⟩⟩
    · rw [hS0]; exact hg
    · rw [hS0]; exact fun _ h _ => h
  · obtain ⟨b, c, cur, us, hv, hb, hnc, hcm, hcs, htk, hf⟩ := vec_cells (hg.items _ List.mem_cons_self) hx
    subst hv
    have hflat : ∀ ys : List α, ys.flatMap encA = (ys.map e).map AV.exact := by
      intro ys
      induction ys with
      | nil => rfl
      | cons y ys ih => rw [List.flatMap_cons, List.map_cons, List.map_cons, ih, hA]; rfl
    rw [hflat] at hf
    have hus := fit_ex_eq hf
    subst hus
    rw [Nat.mul_one] at htk hcs
    have hH : Go.Sort.Holds e w b 0 xs.toArray := by
      intro j hj
      have hj' : j < xs.length := by simpa using hj
      constructor
      · rw [cell_of_row _ b _ _ _ (0, 0) hb, Nat.zero_add]
        have e4 : (cur.toList.take xs.length)[j]? = (xs.map e)[j]? := by rw [htk]
        rw [List.getElem?_take_of_lt hj', List.getElem?_map, List.getElem?_eq_getElem hj'] at e4
        rw [getElem!_pos xs.toArray j (by simpa using hj')]
        simpa using e4
      · simp [World.frozen?, hb]
    have hblt := (Array.getElem?_eq_some_iff.1 hb).1
    refine (hC b c xs w hx hH hblt hl).mono fun x w' ⟨he, n, os, hw⟩ => ?_
    generalize hys : S xs = ys at hw ⊢
    have hyl : ys.length = xs.length := by rw [← hys]; exact hS xs
    subst hw
    have hheap : (sortWorld e w b 0 n ys.toArray os).heap[b]? = some (.cells (putCells e 0 ys.toArray cur) (elemOfT P t) (0, 0)) := by
      unfold sortWorld
      rw [heap_grow_old _ _ (by simpa using hblt)]
      simp [putRow, mapBlock, Sort.ahead, Array.getElem?_modify, hb, onCells]
    have hkp : Keeps (fun q => q ∈ (vecT P t 1 encA (.slice (some ⟨b, 0, none⟩) xs.length c) xs).own) w (sortWorld e w b 0 n ys.toArray os) := by
      refine ⟨rfl, rfl, rfl, Nat.le_add_right _ _, ?_, fun q hlt hn => ?_⟩
      · simp [sortWorld, grow]
      · have hne : q ≠ b := fun e => hn (by simp [vecT, vecI, Value.ownBlock, e])
        unfold sortWorld
        rw [heap_grow_old _ _ (by simpa using hlt)]
        simp [putRow, mapBlock, Sort.ahead, Array.getElem?_modify, Ne.symm hne]
    have hown : (sortWorld e w b 0 n ys.toArray os).ownsRow 0 (elemOfT P t) 1 (.slice (some ⟨b, 0, none⟩) xs.length c) ys.length (ys.map e) := by
      refine ⟨by simp, .inr ⟨b, c, _, by rw [hyl], Nat.zero_le _, hheap, by rw [hyl]; exact hnc, hcm, by simp [putCells, hcs], ?_⟩⟩
      have := take_putCells1 (e := e) ys.toArray cur (by simp [hyl]; omega)
      simpa using this
    obtain ⟨g1, g2, g3⟩ := good_head (it' := vecT P t 1 encA (.slice (some ⟨b, 0, none⟩) xs.length c) ys) hg hkp (fun q hq => ⟨by simp [vecT, vecI, Value.ownBlock] at hq; subst hq; simpa [sortWorld, grow] using Nat.lt_of_lt_of_le hblt (Nat.le_add_right _ _), fun _ => hq⟩) (by simp [vecT, vecI, Value.ownBlock])
      (fun hkk hMM => ⟨ys.map e, hown, by rw [hflat]; exact ex_fit_ex _⟩)
    exact ⟨_, he, _, _, ⟨rfl, rfl⟩, g1, g2, g3, ⟨[], rfl, trivial⟩⟩
end
end Go.Proofs.Ytkplmgdmkfgjhaa
/- The disk, more: Names, Fail, Crash. -/
namespace Go.Proofs.Ytkplmgdmkfgjhaa
open Go.RowKit Go.Maps Go.Sort
set_option maxRecDepth 100000
abbrev cSt (x : List UInt8) : List AV := [.exact (.string (bs x))]
theorem sortStrs_fun {P : Program} {ρ : Go.Shelf.Ren} (L : SlLaysM.n6 P ρ) (v : Value) (xs : List (List UInt8)) (hl : xs.length < 4611686018427387904) (t : TypeId) :
    Fun P (ρ.f 6) [.exact v] [vecT P t 1 cSt v xs] (fun a s => a = .tup [] ∧ s = [vecT P t 1 cSt v (xs.mergeSort fun x y => decide (x ≤ y))]) :=
  sort1_fun (rs := []) (S := fun zs => zs.mergeSort fun x y => decide (x ≤ y)) (fun _ => List.length_mergeSort _) (fun _ => rfl) (fun b c zs w _ hH hb hz => AnyM.slices_Sort_string L b 0 c zs w hH hb hz) (fun p c w => AnyM.slices_Sort_string_none L p c w) v xs hl t
def layss_ren : Go.Shelf.Ren := ⟨fun | 6 => 97 | 8 => 90 | 9 => 114 | 19 => 112 | 20 => 113 | 21 => 121 | 22 => 122 | 23 => 123 | 24 => 124 | 25 => 125 | 26 => 126 | 27 => 127 | 28 => 128 | 29 => 129 | 31 => 117 | 32 => 118 | 36 => 131 | 37 => 132 | 38 => 133 | 39 => 134 | 41 => 135 | n => n, fun | 0 => 0 | 3 => 3 | 4 => 4 | 5 => 5 | 9 => 9 | 26 => 101 | 27 => 101 | 29 => 9 | 32 => 77 | 35 => 132 | 36 => 133 | 41 => 94 | 44 => 75 | 46 => 140 | 53 => 143 | 57 => 147 | 63 => 155 | 64 => 156 | n => n, fun n => n⟩
theorem layss : Go.Proofs.SlLaysM.n6 Try.prog layss_ren where
  mixed := by kernel_rfl
  f6 := ⟨Try.f97.name, by kernel_rfl, Try.func97.trans (congrArg some (by kernel_rfl))⟩
  f8 := Try.func90.trans (congrArg some (by kernel_rfl))
  f9 := ⟨Try.f114.name, by kernel_rfl, Try.func114.trans (congrArg some (by kernel_rfl))⟩
  f19 := Try.func112.trans (congrArg some (by kernel_rfl))
  f20 := Try.func113.trans (congrArg some (by kernel_rfl))
  f21 := ⟨Try.f121.name, by kernel_rfl, Try.func121.trans (congrArg some (by kernel_rfl))⟩
  f22 := ⟨Try.f122.name, by kernel_rfl, Try.func122.trans (congrArg some (by kernel_rfl))⟩
  f23 := ⟨Try.f123.name, by kernel_rfl, Try.func123.trans (congrArg some (by kernel_rfl))⟩
  f24 := ⟨Try.f124.name, by kernel_rfl, Try.func124.trans (congrArg some (by kernel_rfl))⟩
  f25 := ⟨Try.f125.name, by kernel_rfl, Try.func125.trans (congrArg some (by kernel_rfl))⟩
  f26 := ⟨Try.f126.name, by kernel_rfl, Try.func126.trans (congrArg some (by kernel_rfl))⟩
  f27 := ⟨Try.f127.name, by kernel_rfl, Try.func127.trans (congrArg some (by kernel_rfl))⟩
  f28 := ⟨Try.f128.name, by kernel_rfl, Try.func128.trans (congrArg some (by kernel_rfl))⟩
  f29 := ⟨Try.f129.name, by kernel_rfl, Try.func129.trans (congrArg some (by kernel_rfl))⟩
  f31 := Try.func117.trans (congrArg some (by kernel_rfl))
  f32 := Try.func118.trans (congrArg some (by kernel_rfl))
  f36 := ⟨Try.f131.name, by kernel_rfl, Try.func131.trans (congrArg some (by kernel_rfl))⟩
  f37 := ⟨Try.f132.name, by kernel_rfl, Try.func132.trans (congrArg some (by kernel_rfl))⟩
  f38 := ⟨Try.f133.name, by kernel_rfl, Try.func133.trans (congrArg some (by kernel_rfl))⟩
  f39 := ⟨Try.f134.name, by kernel_rfl, Try.func134.trans (congrArg some (by kernel_rfl))⟩
  f41 := ⟨Try.f135.name, by kernel_rfl, Try.func135.trans (congrArg some (by kernel_rfl))⟩
  t0 := Try.underlying0
  a0 := Try.isAgg0
  z0 := Try.sizeOf0
  v0 := Try.zeroValue0
  t3 := Try.underlying3
  a3 := Try.isAgg3
  z3 := Try.sizeOf3
  v3 := Try.zeroValue3
  t4 := Try.underlying4
  a4 := Try.isAgg4
  z4 := Try.sizeOf4
  v4 := Try.zeroValue4
  t5 := Try.underlying5
  a5 := Try.isAgg5
  z5 := Try.sizeOf5
  v5 := Try.zeroValue5
  t9 := Try.underlying9
  a9 := Try.isAgg9
  z9 := Try.sizeOf9
  v9 := Try.zeroValue9
  t26 := Try.underlying101
  a26 := Try.isAgg101
  z26 := Try.sizeOf101
  v26 := Try.zeroValue101
  t27 := Try.underlying101
  a27 := Try.isAgg101
  z27 := Try.sizeOf101
  v27 := Try.zeroValue101
  t29 := Try.underlying9
  a29 := Try.isAgg9
  z29 := Try.sizeOf9
  v29 := Try.zeroValue9
  t32 := Try.underlying77
  a32 := Try.isAgg77
  z32 := Try.sizeOf77
  v32 := Try.zeroValue77
  t35 := Try.underlying132
  a35 := Try.isAgg132
  z35 := Try.sizeOf132
  v35 := Try.zeroValue132
  t36 := Try.underlying133
  a36 := Try.isAgg133
  z36 := Try.sizeOf133
  v36 := Try.zeroValue133
  t41 := Try.underlying94
  a41 := Try.isAgg94
  z41 := Try.sizeOf94
  v41 := Try.zeroValue94
  t44 := Try.underlying75
  a44 := Try.isAgg75
  z44 := Try.sizeOf75
  v44 := Try.zeroValue75
  t46 := Try.underlying140
  a46 := Try.isAgg140
  z46 := Try.sizeOf140
  v46 := Try.zeroValue140
  t53 := Try.underlying143
  a53 := Try.isAgg143
  z53 := Try.sizeOf143
  v53 := Try.zeroValue143
  t57 := Try.underlying147
  a57 := Try.isAgg147
  z57 := Try.sizeOf147
  v57 := Try.zeroValue147
  t63 := Try.underlying155
  a63 := Try.isAgg155
  z63 := Try.sizeOf155
  v63 := Try.zeroValue155
  t64 := Try.underlying156
  a64 := Try.isAgg156
  z64 := Try.sizeOf156
  v64 := Try.zeroValue156
theorem dk_sort (v : Value) (xs : List (List UInt8)) (hl : xs.length < 4611686018427387904) : Fun Try.prog 97 [.exact v] [vecT Try.prog 101 1 cSt v xs] (fun a s => a = .tup [] ∧ s = [vecT Try.prog 101 1 cSt v (xs.mergeSort fun x y => decide (x ≤ y))]) := sortStrs_fun layss v xs hl 101

noncomputable def nmB (y : List UInt8 × Int) (out : List (List UInt8)) : Option (List (List UInt8)) := need (out.length < 137438953472) (some (out ++ [y.1]))
theorem nmB_fold : ∀ (l : List (List UInt8 × Int)) (out : List (List UInt8)), out.length + l.length ≤ 137438953472 → foldB nmB l out = some (out ++ l.map (·.1))
  | [], out, _ => by simp [foldB]
  | y :: l, out, h => by
    rw [foldB]
    have h1 : nmB y out = some (out ++ [y.1]) := by unfold nmB; rw [need_pos (by simp at h; omega)]
    rw [h1]
    show foldB nmB l (out ++ [y.1]) = _
    rw [nmB_fold l _ (by simp at h ⊢; omega)]
    simp
theorem ule_total (a b : List UInt8) : (decide (a ≤ b) || decide (b ≤ a)) = true := by
  rcases List.le_total a b with h | h <;> simp [h]
theorem nms_perm {l l' : List (List UInt8 × Int)} (h : l'.Perm l) : nms l' = nms l := by
  unfold nms
  have h1 := (List.mergeSort_perm (l'.map (·.1)) (fun x y : List UInt8 => decide (x ≤ y)))
  have h2 := (List.mergeSort_perm (l.map (·.1)) (fun x y : List UInt8 => decide (x ≤ y)))
  refine List.Perm.eq_of_pairwise (le := fun x y : List UInt8 => decide (x ≤ y) = true) (fun a b _ _ ha hb => List.le_antisymm (of_decide_eq_true ha) (of_decide_eq_true hb)) ?_ ?_ (h1.trans ((h.map _).trans h2.symm))
  · exact List.pairwise_mergeSort (le := fun x y : List UInt8 => decide (x ≤ y)) (fun a b c ha hb => decide_eq_true (List.le_trans (of_decide_eq_true ha) (of_decide_eq_true hb))) (fun a b => ule_total a b) _
  · exact List.pairwise_mergeSort (le := fun x y : List UInt8 => decide (x ≤ y)) (fun a b c ha hb => decide_eq_true (List.le_trans (of_decide_eq_true ha) (of_decide_eq_true hb))) (fun a b => ule_total a b) _
theorem nms_rng (l : List (List UInt8 × Int)) (h : l.length < 137438953472) : rngC l nmB [] (fun out => some (out.mergeSort fun x y => decide (x ≤ y))) = some (nms l) := by
  refine rngC_mk fun l' hp => ?_
  rw [nmB_fold l' [] (by rw [hp.length_eq]; simp; omega)]
  show some _ = _
  rw [← nms_perm hp]; rfl
theorem oc_cSt (x : List UInt8) : OneC (cSt x) := OneC.cons (fun M w u h => by rw [show u = _ from h]; rfl) OneC.nil
section
variable {P : Program} {af : AF} {σ ρ : Items} {d : Option Tmp} {ty t : TypeId} {pos : String} {after : Array Edge} {g : Option (Nat × Bool)} {α : Type} {n : Nat} {enc : α → List AV} {xs : List α} {v : Value}
/-- s[:i:i] of a row in use. -/
theorem op_cutO {x hi m : Operand} {e : TypeId} {i : Int} {k1 k2 : IntKind} {K : AF → Items → Prop} (hB : sliceB P t n = true) (he : ∀ x, (enc x).length = n) (hx : af.ev x = .exact v) (hhi : af.ev hi = .exact (.int k1 i)) (hm : af.ev m = .exact (.int k2 i)) (h0 : 0 ≤ i) (h1 : i ≤ xs.length)
    (hk : ∀ v', K (af.put d (.exact v')) (vecO P e n enc v' (xs.take i.toNat) :: ρ)) : opB P ⟨d, .slice t x none (some hi) (some m), ty, pos, after, g⟩ af (vecO P e n enc v xs :: ρ) K := by
  refine ⟨fun a s => ∃ v', a = .exact v' ∧ s = vecO P e n enc v' (xs.take i.toNat) :: ρ, fun F w ev hg h => ?_, fun av s ⟨v', e1, e2⟩ => by subst e1 e2; exact hk v'⟩
  have e1 := opnd h (x := x) (by simp [Op.operands]) hx
  obtain ⟨us, hown, hfit⟩ := hg.items (vecO P e n enc v xs) List.mem_cons_self
  have hv : ∃ A c, v = .slice A xs.length c ∧ xs.length ≤ c := by
    rcases hown.2 with ⟨rfl, h0⟩ | ⟨g, o, cap, cur, rfl, _, hc, _⟩
    · exact ⟨none, 0, by rw [h0], by omega⟩
    · exact ⟨_, _, rfl, hc⟩
  obtain ⟨A, c, rfl, hc⟩ := hv
  obtain ⟨a, rfl⟩ := Int.eq_ofNat_of_zero_le h0
  simp only [Int.toNat_natCast]
  have h1' : a ≤ xs.length := by omega
  have hac : a ≤ c := by omega
  obtain ⟨e', hu, hs⟩ := sliceB_spec hB
  have em := opnd h (x := m) (by simp [Op.operands]) hm
  have eh := opnd h (x := hi) (by simp [Op.operands]) hhi
  have hrun : (execOp ev ⟨d, .slice t x none (some hi) (some m), ty, pos, after, g⟩).run P w = .ok (.value (.slice A a a)) w := by
    have hb : (Instr.sliceBounds true xs.length c none (some (ev hi)) (some (ev m))).run P w = .ok (0, a, a) w := by
      unfold Instr.sliceBounds
      simp [Instr.sliceBound, asIntOf, em, eh, hac, go_sem]
    unfold execOp
    simp only [Instr.sliceAt, Instr.slice, e1, Sem.run_bind, run_under hu, Result.andThen_ok, Option.map_some, Option.map_none, hb, run_size hs, Sem.run_pure, Nat.sub_zero, Nat.zero_mul]
    have hA : (if a = 0 then A else A.map (·.add 0)) = A := by
      split
      · rfl
      · cases A with
        | none => rfl
        | some a => simp [Addr.add]
    rw [hA]
  rw [hrun]
  have htl : (xs.take a).length = a := by simp; omega
  have hown' : ∀ k, Items.own (vecO P e n enc (.slice A a a) (xs.take a) :: ρ) k ↔ Items.own (vecO P e n enc (.slice A xs.length c) xs :: ρ) k := fun k => by
    rw [own_cons, own_cons]; cases A <;> simp [vecO, Value.ownBlock]
  have hM : ∀ k, k < w.heap.size → both F (Items.own (vecO P e n enc (.slice A a a) (xs.take a) :: ρ)) k → both F (Items.own (vecO P e n enc (.slice A xs.length c) xs :: ρ)) k := fun k _ h => h.imp id (hown' k).1
  refine ⟨_, _, ⟨_, rfl, rfl⟩, ⟨hg.fr, fun k h => hg.own k ((hown' k).1 h), ?_, fun it hi => ?_⟩, Keeps.refl _ _, fun k h _ => (hown' k).1 h, rfl⟩
  · have := hg.nodup
    rw [List.flatMap_cons] at this ⊢
    cases A <;> exact this
  · rcases List.mem_cons.1 hi with rfl | hi
    · have hmul : a * n ≤ xs.length * n := Nat.mul_le_mul_right _ h1'
      refine ⟨us.take (a * n), ⟨by rw [htl, List.length_take, hown.1]; omega, ?_⟩, ?_⟩
      · rw [htl]
        rcases hown.2 with ⟨h1, h0⟩ | ⟨g, o, cap, cur, h1, h2, h3, h4, h5, h6⟩
        · injection h1 with q1 q2 q3
          subst q1
          have ha : a = 0 := by omega
          exact .inl ⟨by rw [ha], ha⟩
        · injection h1 with q1 q2 q3
          subst q1 q3
          exact .inr ⟨g, o, a, cur, rfl, h2, Nat.le_refl _, by omega, Nat.le_trans (Nat.add_le_add_left (Nat.mul_le_mul_right _ hac) _) h5, by rw [← h6, List.take_take, Nat.min_eq_left hmul]⟩
      · rw [← (flat_take_drop he xs a).1]
        exact (hfit.take (a * n)).keep (Keeps.refl _ _) hM
    · exact it.keep (Keeps.refl _ _) hM (hg.items it (List.mem_cons_of_mem _ hi))
theorem SubU.rowCell {bt : TypeId} {b : Nat} {a0 a1 a2 a4 a5 a6 : AV} (he : ∀ x, (enc x).length = n) :
    SubU af (vecT P t n enc v xs :: boxI bt b [a0, a1, a2, .exact v, a4, a5, a6] :: σ) af (boxI bt b [a0, a1, a2, .row n enc xs, a4, a5, a6] :: σ) := by
  intro E N a w hh
  have hd := (SubU.drop (it := vecT P t n enc v xs) (af := af) (σ := boxI bt b [a0, a1, a2, .exact v, a4, a5, a6] :: σ)) E N a w hh
  have hnd := hh.good.nodup
  rw [List.flatMap_cons, List.nodup_append] at hnd
  refine ⟨hd.tmps, hd.defers, hd.kept, hd.old, ⟨hd.good.fr, hd.good.own, hd.good.nodup, fun it hi => ?_⟩, hd.fits⟩
  rcases List.mem_cons.1 hi with rfl | hi
  · obtain ⟨vs, h1, hfit⟩ := hd.good.items (boxI bt b [a0, a1, a2, .exact v, a4, a5, a6]) List.mem_cons_self
    match vs, hfit with
    | [u0, u1, u2, u3, u4, u5, u6], ⟨f0, f1, f2, f3, f4, f5, f6, _⟩ =>
      have f3' : u3 = v := f3
      refine ⟨_, h1, f0, f1, f2, ?_, f4, f5, f6, trivial⟩
      rw [f3']
      refine vec_row (fun k hk hMk => ?_) he (hh.good.items (vecT P t n enc v xs) List.mem_cons_self) (fun k _ hk => hk.imp id (fun h => own_cons.2 (.inr h)))
      have hkv : k ∈ (vecT P t n enc v xs).own := by simp [vecT, vecI, hk]
      rcases hMk with hF | hO
      · exact (hh.good.own k (own_cons.2 (.inl hkv))).2 hF
      · exact hnd.2.2 k hkv k hO rfl
  · exact hd.good.items it (List.mem_cons_of_mem _ hi)
end
section
variable {P : Program} {af : AF} {σ : Items} {d : Option Tmp} {ty : TypeId} {pos : String} {after : Array Edge} {g : Option (Nat × Bool)}
/-- Function k with captured values. -/
def AV.clo (k : FuncId) (avs : List AV) : AV := ⟨fun M w v => ∃ caps : List Value, v = .func (.func k) #[] caps.toArray ∧ Fit M w avs caps, fun hk hm ⟨caps, h1, h2⟩ => ⟨caps, h1, h2.keep hk hm⟩⟩
theorem op_makeClo {k : FuncId} {cs : List Operand} {avs : List AV} {K : AF → Prop} (hx : LEs (cs.map af.ev) avs) (hk : K (af.put d (.clo k avs))) : opA P ⟨d, .makeFunc (.func k) #[] cs.toArray, ty, pos, after, g⟩ af K := by
  refine ⟨_, fun M w ev hM hh => ?_, hk⟩
  have hfit : Fit M w avs (cs.map ev) := fit_opnds (fun x hm => hh x (by simp [Op.operands, hm])) hx
  simp [execOp, Instr.makeFunc, go_sem, UponQ]
  exact ⟨Keeps.refl _ _, cs.map ev, by simp, hfit⟩
theorem op_callClo {k : FuncId} {fn : Func} {args avs : List AV} {post : AV → Items → Prop} {z : Operand} {xs : List Operand} {ats : Array TypeId} {K : AF → Items → Prop} (hp : Fun P k (args ++ avs) σ post) (hf : P.funcs[k]? = some fn) (hb : (fn.body.isNone || fn.name == "runtime.NumGoroutine") = false)
    (hz : af.ev z = .clo k avs) (hx : LEs (xs.map af.ev) args) (hk : ∀ av σ', post av σ' → K (af.put d av) σ') : opB P ⟨d, .call { callee := .value z, args := xs.toArray, argTypes := ats }, ty, pos, after, g⟩ af σ K := by
  refine ⟨post, fun F w ev hg h => ?_, hk⟩
  obtain ⟨caps, e1, e2⟩ := opnd_p h (x := z) (by simp [Op.operands, Call.operands]) hz
  have hfit : Fit (both F (Items.own σ)) w args (xs.map ev) := fit_opnds (fun x hm => h x (by simp [Op.operands, Call.operands, hm])) hx
  simp only [Bool.or_eq_false_iff] at hb
  have hrun : (execOp ev ⟨d, .call { callee := .value z, args := xs.toArray, argTypes := ats }, ty, pos, after, g⟩).run P w = .ok (.enter k (xs.map ev ++ caps).toArray) w := by
    simp [execOp, resolve, e1, Deferred.ofValue, invoke, run_callFunc hf hb.1 hb.2, go_sem]
  rw [hrun]
  exact hp F w _ hg (hfit.app e2)
end
section
variable {P : Program} {af : AF} {σ ρ : Items} {d : Option Tmp} {ty t : TypeId} {pos : String} {after : Array Edge} {g : Option (Nat × Bool)}
theorem op_callClo1 {k : FuncId} {fn : Func} {args avs : List AV} {r : AV} {it it' : Item} {z : Operand} {xs : List Operand} {ats : Array TypeId} {K : AF → Items → Prop} (hp : Fun P k (args ++ avs) [it] (fun a s => a = r ∧ s = [it'])) (hf : P.funcs[k]? = some fn) (hb : (fn.body.isNone || fn.name == "runtime.NumGoroutine") = false)
    (hz : af.ev z = .clo k avs) (hx : LEs (xs.map af.ev) args) (hk : K (af.put d r) (it' :: ρ)) : opB P ⟨d, .call { callee := .value z, args := xs.toArray, argTypes := ats }, ty, pos, after, g⟩ af (it :: ρ) K :=
  op_callClo (hp.frame ρ) hf hb hz hx (by rintro _ _ ⟨_, ⟨rfl, rfl⟩, rfl⟩; exact hk)
end
theorem cr_succ {i : Nat} (h : i < 9223372036854775807) : i64 ((i : Int) + 1) = ((i + 1 : Nat) : Int) := by rw [i64_id (by omega)]; omega
theorem nms_len (l : List (List UInt8 × Int)) : (nms l).length = l.length := by unfold nms; rw [List.length_mergeSort, List.length_map]
theorem gi_setS {α : Type} [Inhabited α] {l : List α} {i : Int} {z : α} (h0 : 0 ≤ i) (h1 : i < (l.length : Int)) : gi (l.set i.toNat z) i = z := by
  unfold gi
  rw [List.getElem?_set_self (by omega)]
  rfl
theorem drop_gi {α : Type} [Inhabited α] {l : List α} {i : Nat} (h : i < l.length) : l.drop i = gi l (i : Int) :: l.drop (i + 1) := by
  rw [List.drop_eq_getElem_cons h]
  simp [gi, h]
theorem crF_step {l : List (List UInt8 × List UInt8 × Int)} {a : List (List UInt8 × Int)} {i : Nat} (h : i < l.length) : List.foldl (fun l o => dkPf o l) a (List.take (i + 1) l) = dkPf (gi l (i : Int)) (List.foldl (fun l o => dkPf o l) a (List.take i l)) := by
  rw [List.take_succ_eq_append_getElem h, List.foldl_append]
  simp [gi, h]
theorem crL_cons {nm : List (List UInt8 × Int)} {s : List UInt8} {ns : List (List UInt8)} {F r : List (List UInt8 × Int)} {k : List Int} (h : crL nm (s :: ns) F k = some r) : (0 ≤ (lookL nm s).getD (-1) ∧ (lookL nm s).getD (-1) < (F.length : Int)) ∧
    (if 0 < i64 (((gi F ((lookL nm s).getD (-1))).1.length : Int) - (gi F ((lookL nm s).getD (-1))).2) then
      bnd1 (dkNx k (i64 (((gi F ((lookL nm s).getD (-1))).1.length : Int) - (gi F ((lookL nm s).getD (-1))).2))) (fun x =>
        need (0 ≤ i64 ((gi F ((lookL nm s).getD (-1))).2 + x) ∧ i64 ((gi F ((lookL nm s).getD (-1))).2 + x) ≤ ((gi F ((lookL nm s).getD (-1))).1.length : Int))
          (crL nm ns (F.set ((lookL nm s).getD (-1)).toNat ((gi F ((lookL nm s).getD (-1))).1.take (i64 ((gi F ((lookL nm s).getD (-1))).2 + x)).toNat, i64 ((gi F ((lookL nm s).getD (-1))).2 + x))) k.tail))
    else crL nm ns F k) = some r := by
  unfold crL at h
  exact need_some h
attribute [local irreducible] AV.exact AV.top AV.row AV.ptr AV.agg AV.tup AV.eptr AV.fn AV.nilq AV.nilqn opA opB opM opR Quiet Loud Reads wpG awp den Sub SubU Pure Fun vecI vecT vecO boxI hpI mapI allI refA hptA CellsAll CellsOf OneC LEs LEss
set_option maxHeartbeats 4000000 in
theorem dk_names {hb : List Nat} {b nb : Nat} {c0 c2 c3 c4 c5 c6 : AV} (l : List (List UInt8 × Int)) (hl : l.length < 137438953472) : Fun Try.prog 72 [pA b 0] [boxI 81 b [c0, .exact (.map (some nb)), c2, c3, c4, c5, c6], dM hb nb l] (fun a s => a = .row 1 cSt (nms l) ∧ s = [boxI 81 b [c0, .exact (.map (some nb)), c2, c3, c4, c5, c6], dM hb nb l]) := by
  have h := nms_rng l hl
  refine fun_of_awp Try.func72 rfl Try.ntmps72 (by simp) rfl (res1 rfl) fun E hE => k_end ?_
  refine k_seq ?_
  refine k_reg .free hmixP (by kernel_rfl) ?_
  refine G_q rfl (op_assign (av := .exact (.slice none 0 0)) rfl ?_)
  refine G_nil ?_
  refine kC_normal ?_
  refine k_seq ?_
  refine k_reg .free hmixP (by kernel_rfl) ?_
  refine G_q rfl (op_assign (av := .exact (.slice none 0 0)) rfl ?_)
  refine G_nil ?_
  refine kC_normal ?_
  refine k_seq ?_
  refine k_seq ?_
  refine k_reg .free hmixP (by kernel_rfl) ?_
  refine G_q rfl (op_move (av := pA b 0) rfl ?_)
  refine G_q rfl (op_nilCheck rfl ?_)
  refine G_q rfl (op_fieldAddr (o := 1) (by kernel_rfl) rfl ?_)
  refine G_r rfl (op_load_box1 (a := .exact (.map (some nb))) (by kernel_rfl) rfl rfl ?_)
  refine G_l rfl (opB_f1 (op_mrange Try.underlying78 rfl (fun r => ?_)))
  refine G_nil ?_
  refine kC_normal ?_
  refine k_block ?_
  refine k_range1_1 (V := (fun _ => True)) (kv := (fun k : List UInt8 => .string (bs k))) (vv := (fun x : Int => refA hb x)) (b := nb) (r := r) h (fun (_ : List (List UInt8)) (g : Value) => (AF.put (AF.put AF0 (some 3) (.exact g)) (some 9) (pA r 0))) (fun (n : List (List UInt8)) (g : Value) => [vecT Try.prog 101 1 cSt g n, boxI 81 b [c0, .exact (.map (some nb)), c2, c3, c4, c5, c6]]) (.slice none 0 0) ?_ (fun n g left cur Q hK hB => ?_)
  · exact SubU.to (SubU.trans (SubU.nilT (P := Try.prog) (t := 101) (n := 1) (enc := cSt)) (SubU.trans SubU.f1 (SubU.of_le (AF.le_put (AV.le_eq rfl) (AF.le_put (AV.le_eq rfl) (AF.le_top _))))))
  · refine k_seq ?_
    refine k_reg .free hmixP (by kernel_rfl) ?_
    refine G_l rfl (op_mnext rfl (fun hl => ?_) (fun A1 y B1 hl => ?_))
    · replace h := hK hl
      have hu := Option.some.inj h
      refine G_q rfl (op_extract (av := .exact (.bool false)) rfl rfl ?_)
      refine G_nil ?_
      refine kC_normal ?_
      refine k_seq ?_
      refine k_cond_f rfl ?_
      refine k_exit ?_
      refine kC_exit ?_
      refine kI_exit ?_
      refine kB_exit ?_
      refine kC_normal ?_
      refine awp_sub (SubU.to SubU.mDone) ?_
      have hn : n.length < 4611686018427387904 := by
        have := congrArg List.length hu
        rw [List.length_mergeSort, nms, List.length_mergeSort, List.length_map] at this
        omega
      refine k_seq ?_
      refine k_reg .free hmixP (by kernel_rfl) ?_
      refine G_q rfl (op_move (av := .exact g) rfl ?_)
      refine G_l rfl (opB_f1 (op_fun_1_0_1 (dk_sort g n hn) Try.func97 (by kernel_rfl) (LEs.cons (AV.le_eq rfl) LEs.nil) ?_))
      refine G_nil ?_
      refine kC_normal ?_
      refine k_seq ?_
      refine k_reg .free hmixP (by kernel_rfl) ?_
      refine G_q rfl (op_move (av := .exact g) rfl ?_)
      refine G_q rfl (op_assign (av := .exact g) rfl ?_)
      refine G_nil ?_
      refine kC_normal ?_
      refine k_ret ?_
      rw [hu]
      exact kP_any (endN (af' := (AF.put AF0 (some 2) (.row 1 cSt (nms l)))) (σ' := [boxI 81 b [c0, .exact (.map (some nb)), c2, c3, c4, c5, c6], dM hb nb l]) _ rfl (SubU.to (SubU.trans (SubU.freezeT (s := 2) rfl (fun _ => rfl)) (SubU.trans SubU.f1 (SubU.of_le (AF.le_put (AV.le_eq rfl) (AF.le_top _)))))) ⟨rfl, rfl⟩)
    · obtain ⟨x', h, hj⟩ := hB A1 y B1 hl
      unfold nmB at h
      obtain ⟨n1, h⟩ := need_some h
      have hx := Option.some.inj h
      refine G_q rfl (op_extract (av := .exact (.bool true)) rfl rfl ?_)
      refine G_nil ?_
      refine kC_normal ?_
      refine k_seq ?_
      refine k_cond_t rfl ?_
      refine k_skip ?_
      refine kC_normal ?_
      refine k_block ?_
      refine k_seq ?_
      refine k_reg .free hmixP (by kernel_rfl) ?_
      refine G_r rfl (op_mentry rfl ?_)
      refine G_q rfl (op_extract (av := .exact (.string (bs y.1))) rfl rfl ?_)
      refine G_q rfl (op_assign (av := .exact (.string (bs y.1))) rfl ?_)
      refine G_nil ?_
      refine kC_normal ?_
      refine k_reg .free hmixP (by kernel_rfl) ?_
      refine G_q rfl (op_move (av := .exact g) rfl ?_)
      refine G_q rfl (op_move (av := .exact (.string (bs y.1))) rfl ?_)
      refine G_q rfl (op_litT (n := 1) (enc := cSt) [y.1] (CellsAll.cons rfl CellsOf.str CellsAll.nil) rfl (by kernel_rfl) (LEss.cons (LEs.cons (AV.le_eq rfl) LEs.nil) LEss.nil) ?_)
      refine G_l rfl (opB_f1 (op_appT (by kernel_rfl) rfl rfl oc_cSt (by show _ ≤ 137438953472; simp; omega) (fun g' => ?_)))
      refine G_q rfl (op_assign (av := .exact g') rfl ?_)
      refine G_nil ?_
      refine kB_normal ?_
      subst hx
      exact hj _ _ g' (SubU.to (SubU.trans SubU.f1 (SubU.of_le (AF.le_put (AV.le_eq rfl) (AF.le_put (AV.le_eq rfl) (AF.le_top _))))))
set_option maxHeartbeats 4000000 in
theorem dk_fail {b nb db : Nat} {pv : Value} (D : Dk) (n : Int) : Fun Try.prog 34 [pA b 0, .exact (.int .i64 n)] [dB b nb db pv D] (fun a s => a = .tup [] ∧ s = [dB b nb db pv (if D.dn = true then D else { D with fl := max n 0 })]) := by
  refine fun_of_awp Try.func34 rfl Try.ntmps34 (by simp) rfl (res0 rfl) fun E hE => k_end ?_
  refine k_seq ?_
  refine k_reg .free hmixP (by kernel_rfl) ?_
  refine G_q rfl (op_move (av := pA b 0) rfl ?_)
  refine G_q rfl (op_nilCheck rfl ?_)
  refine G_q rfl (op_fieldAddr (o := 6) (by kernel_rfl) rfl ?_)
  refine G_r rfl (op_load_box1 (a := .exact (.bool D.dn)) (by kernel_rfl) rfl rfl ?_)
  refine G_q rfl (op_not rfl ?_)
  refine G_nil ?_
  refine kC_normal ?_
  refine k_cond_b (c := !D.dn) rfl (fun hc1 => ?_) (fun hc1 => ?_)
  · refine k_reg .free hmixP (by kernel_rfl) ?_
    refine G_q rfl (op_move (av := pA b 0) rfl ?_)
    refine G_q rfl (op_move (av := .exact (.int .i64 n)) rfl ?_)
    refine G_q rfl (op_max rfl rfl ?_)
    refine G_q rfl (op_nilCheck rfl ?_)
    refine G_q rfl (op_fieldAddr (o := 5) (by kernel_rfl) rfl ?_)
    refine G_l rfl (op_store_box (c' := [.exact (.int .i64 (max n 0))]) (c3 := [.exact (.int .i64 D.cap), .exact (.map (some nb)), .exact (.map (some db)), .exact pv, .exact (.int .i64 D.wr), .exact (.int .i64 (max n 0)), .exact (.bool D.dn)]) rfl rfl CellsOf.int (LEs.cons (AV.le_eq rfl) LEs.nil) (OneC.int OneC.nil) (by kernel_rfl) (Nat.le_of_ble_eq_true rfl) rfl ?_)
    refine G_nil ?_
    refine kP_any (endNn (af' := AF0) (σ' := [boxI 81 b [.exact (.int .i64 D.cap), .exact (.map (some nb)), .exact (.map (some db)), .exact pv, .exact (.int .i64 D.wr), .exact (.int .i64 (max n 0)), .exact (.bool D.dn)]]) _ rfl (Sub.of_le (AF.le_top _)) ?_)
    refine ⟨rfl, ?_⟩
    first | (rw [if_neg (by simpa using hc1)]; done) | (rw [if_pos (by simpa using hc1)]; done)
  · refine k_skip ?_
    refine kP_any (endNn (af' := AF0) (σ' := [boxI 81 b [.exact (.int .i64 D.cap), .exact (.map (some nb)), .exact (.map (some db)), .exact pv, .exact (.int .i64 D.wr), .exact (.int .i64 D.fl), .exact (.bool D.dn)]]) _ rfl (Sub.of_le (AF.le_top _)) ?_)
    refine ⟨rfl, ?_⟩
    first | (rw [if_neg (by simpa using hc1)]; done) | (rw [if_pos (by simpa using hc1)]; done)
abbrev cIn (x : Int) : List AV := [.exact (.int .i64 x)]
set_option maxHeartbeats 4000000 in
theorem dk_next {kb : Nat} (k : List Int) (n r : Int) (h : dkNx k n = some r) : Fun Try.prog 70 ([.exact (.int .i64 n)] ++ [pA kb 0]) [boxI 22 kb [.row 1 cIn k]] (fun a s => a = .exact (.int .i64 r) ∧ s = [boxI 22 kb [.row 1 cIn k.tail]]) := by
  obtain ⟨h1, h⟩ := need_some h
  have hr := Option.some.inj h
  refine fun_of_awp Try.func70 rfl Try.ntmps70 (by simp) rfl (res1 rfl) fun E hE => k_end ?_
  refine k_seq ?_
  refine k_reg .free hmixP (by kernel_rfl) ?_
  refine G_q rfl (op_assign (av := .exact (.int .i64 0)) rfl ?_)
  refine G_nil ?_
  refine kC_normal ?_
  refine k_seq ?_
  refine k_reg .free hmixP (by kernel_rfl) ?_
  refine G_q rfl (op_assign (av := .exact (.int .i64 0)) rfl ?_)
  refine G_nil ?_
  refine kC_normal ?_
  refine k_seq ?_
  refine k_seq ?_
  refine k_reg .free hmixP (by kernel_rfl) ?_
  refine G_r rfl (op_load_box1 (a := .row 1 cIn k) (by kernel_rfl) rfl rfl ?_)
  refine G_q rfl (op_len_row (by kernel_rfl) rfl ?_)
  refine G_q rfl (op_gtr rfl rfl ?_)
  refine G_nil ?_
  refine kC_normal ?_
  refine k_cond_d (p := (0 : Int) < (k.length : Int)) rfl (fun hc => ?_) (fun hc => ?_)
  · match k, hc with
    | x :: k', hc =>
    refine k_plan [] [(1, 0), (0, 1), (0, 2), (0, 3), (1, 4), (0, 5), (0, 6), (2, 7)] hmixP (by kernel_rfl) ?_
    refine P_r rfl (op_load_box1 (a := .row 1 cIn (x :: k')) (by kernel_rfl) rfl rfl ?_)
    refine P_q no34_0 rfl (op_index_row (by kernel_rfl) rfl rfl (by decide) hc ?_)
    refine P_q no34_0 rfl (op_load1p (a := .exact (.int .i64 x)) (by kernel_rfl) rfl rfl ?_)
    refine P_q no34_0 rfl (op_max rfl rfl ?_)
    refine P_r rfl (op_load_box1 (a := .row 1 cIn (x :: k')) (by kernel_rfl) rfl rfl ?_)
    refine P_q no34_0 rfl (op_slice_rowd (by kernel_rfl) rfl (bnd_some rfl) bnd_none (by decide) (by omega) (by omega) ?_)
    refine P_q no34_0 rfl (op_assign (av := .exact (.int .i64 (max x 0))) rfl ?_)
    refine P_l rfl (op_store_box (c' := [.row 1 cIn k']) (c3 := [.row 1 cIn k']) rfl rfl CellsOf.row (LEs.cons (AV.le_eq rfl) LEs.nil) (OneC.row OneC.nil) (by kernel_rfl) (Nat.le_of_ble_eq_true rfl) rfl ?_)
    refine P_nil ?_
    refine kC_normal ?_
    refine k_seq ?_
    refine k_reg .free hmixP (by kernel_rfl) ?_
    refine G_q rfl (op_move (av := .exact (.int .i64 (max x 0))) rfl ?_)
    refine G_q rfl (op_move (av := .exact (.int .i64 n)) rfl ?_)
    refine G_q rfl (op_add rfl rfl rfl ?_)
    refine G_q rfl (op_rem rfl rfl h1 hr ?_)
    refine G_q rfl (op_assign (av := .exact (.int .i64 r)) rfl ?_)
    refine G_nil ?_
    refine kC_normal ?_
    refine k_ret ?_
    exact kP_any (endN (af' := (AF.put AF0 (some 3) (.exact (.int .i64 r)))) (σ' := [boxI 22 kb [.row 1 cIn k']]) _ rfl (Sub.of_le (AF.le_put (AV.le_eq rfl) (AF.le_top _))) ⟨rfl, rfl⟩)
  · have hk : k = [] := by cases k with
      | nil => rfl
      | cons x k' => exact absurd (by simp) hc
    subst hk
    refine k_skip ?_
    refine kC_normal ?_
    refine k_seq ?_
    refine k_reg .free hmixP (by kernel_rfl) ?_
    refine G_q rfl (op_move (av := .exact (.int .i64 0)) rfl ?_)
    refine G_q rfl (op_move (av := .exact (.int .i64 n)) rfl ?_)
    refine G_q rfl (op_add rfl rfl rfl ?_)
    refine G_q rfl (op_rem rfl rfl h1 hr ?_)
    refine G_q rfl (op_assign (av := .exact (.int .i64 r)) rfl ?_)
    refine G_nil ?_
    refine kC_normal ?_
    refine k_ret ?_
    exact kP_any (endN (af' := (AF.put AF0 (some 3) (.exact (.int .i64 r)))) (σ' := [boxI 22 kb [.row 1 cIn []]]) _ rfl (Sub.of_le (AF.le_put (AV.le_eq rfl) (AF.le_top _))) ⟨rfl, rfl⟩)
end Go.Proofs.Ytkplmgdmkfgjhaa
/- Crash of the disk. -/
namespace Go.Proofs.Ytkplmgdmkfgjhaa
open Go.RowKit Go.Maps Go.Sort
set_option maxRecDepth 100000
attribute [local irreducible] AV.exact AV.top AV.row AV.ptr AV.agg AV.tup AV.eptr AV.fn AV.nilq AV.nilqn opA opB opM opR Quiet Loud Reads wpG awp den Sub SubU Pure Fun vecI vecT vecO boxI hpI mapI allI refA hptA CellsAll CellsOf OneC LEs LEss
attribute [local irreducible] AV.clo
set_option maxHeartbeats 8000000 in
theorem dk_crash {hb : List Nat} {b nb db : Nat} {pv : Value} {Z : List DkZ} (k : List Int) (D : Dk) (hZ : D.files = Z.map (·.2)) (r : Dk) (h : m_disk_Crash D k = some r) : Fun Try.prog 38 [pA b 0, .row 1 cIn k] (dIts hb b nb db pv D Z) (fun a σ => ∃ nb' db' pv' Z', r.files = Z'.map (·.2) ∧ a = .tup [] ∧ σ = dIts hb b nb' db' pv' r Z') := by
  unfold m_disk_Crash at h
  obtain ⟨c, hc, h⟩ := bnd1_some h
  obtain ⟨hcr, h⟩ := need_some h
  obtain ⟨hnl, h⟩ := need_some h
  obtain ⟨F, hF, h⟩ := bnd1_some h
  cases h
  refine fun_of_awp Try.func38 rfl Try.ntmps38 (by simp) rfl (res0 rfl) fun E hE => k_end ?_
  refine awp_sub (SubU.to (SubU.trans SubU.f3 (SubU.rowCell (fun _ => rfl)))) ?_
  refine k_seq ?_
  refine k_reg .free hmixP (by kernel_rfl) ?_
  refine G_l rfl (op_boxI (c := [.row 1 cIn k]) rfl CellsOf.row (LEs.cons (AV.le_eq rfl) LEs.nil) (fun kb => ?_))
  refine G_nil ?_
  refine kC_normal ?_
  refine k_seq ?_
  refine k_reg .free hmixP (by kernel_rfl) ?_
  refine G_q rfl (op_makeClo (avs := [pA kb 0]) (LEs.cons (AV.le_eq rfl) LEs.nil) ?_)
  refine G_q rfl (op_assign (av := .clo 70 [pA kb 0]) rfl ?_)
  refine G_nil ?_
  refine kC_normal ?_
  refine k_seq ?_
  refine k_reg .free hmixP (by kernel_rfl) ?_
  refine G_q rfl (op_move (av := pA b 0) rfl ?_)
  refine G_q rfl (op_move (av := pA b 0) rfl ?_)
  refine G_q rfl (op_nilCheck rfl ?_)
  refine G_q rfl (op_fieldAddr (o := 2) (by kernel_rfl) rfl ?_)
  refine G_r rfl (opR_f1 (op_load_box1 (a := .exact (.map (some db))) (by kernel_rfl) rfl rfl ?_))
  refine G_q rfl (op_nilCheck rfl ?_)
  refine G_q rfl (op_fieldAddr (o := 1) (by kernel_rfl) rfl ?_)
  refine G_l rfl (opB_f1 (op_store_box (c' := [.exact (.map (some db))]) (c3 := [.exact (.int .i64 D.cap), .exact (.map (some db)), .exact (.map (some db)), .row 3 (opE hb) D.pend, .exact (.int .i64 D.wr), .exact (.int .i64 D.fl), .exact (.bool D.dn)]) rfl rfl CellsOf.mapz (LEs.cons (AV.le_eq rfl) LEs.nil) (OneC.mapz OneC.nil) (by kernel_rfl) (Nat.le_of_ble_eq_true rfl) rfl ?_))
  refine G_nil ?_
  refine kC_normal ?_
  refine k_seq ?_
  refine k_seq ?_
  refine k_plan [boxI 81 b [.exact (.int .i64 D.cap), .exact (.map (some db)), .exact (.map (some db)), .row 3 (opE hb) D.pend, .exact (.int .i64 D.wr), .exact (.int .i64 D.fl), .exact (.bool D.dn)]] [(0, 0), (0, 1), (0, 2), (4, 3), (0, 4), (0, 5), (0, 6), (0, 7), (4, 8), (0, 9), (0, 13), (3, 10), (0, 11), (0, 12)] hmixP (by kernel_rfl) ?_
  refine P_q no34_0 rfl (op_move (av := pA b 0) rfl ?_)
  refine P_q no34_0 rfl (op_nilCheck rfl ?_)
  refine P_q no34_0 rfl (op_fieldAddr (o := 3) (by kernel_rfl) rfl ?_)
  refine P_r4 (Has.cons (List.Mem.head _) Has.mk0) rfl (opI_mk (List.Mem.head _) (fun _ => op_load_box1 (a := .row 3 (opE hb) D.pend) (by kernel_rfl) rfl rfl rfl) ?_)
  refine P_q no34_0 rfl (op_move (av := .clo 70 [pA kb 0]) rfl ?_)
  refine P_q no34_0 rfl (op_move (av := pA b 0) rfl ?_)
  refine P_q no34_0 rfl (op_nilCheck rfl ?_)
  refine P_q no34_0 rfl (op_fieldAddr (o := 3) (by kernel_rfl) rfl ?_)
  refine P_r4 (Has.cons (List.Mem.head _) Has.mk0) rfl (opI_mk (List.Mem.head _) (fun _ => op_load_box1 (a := .row 3 (opE hb) D.pend) (by kernel_rfl) rfl rfl rfl) ?_)
  refine P_q no34_0 rfl (op_len_row (by kernel_rfl) rfl ?_)
  refine P_q no34_0 rfl (op_move (av := .exact (.int .i64 0)) rfl ?_)
  refine P_l3 rfl (opB_f1 (op_callClo1 (dk_next k (D.pend.length : Int) c hc) Try.func70 (by kernel_rfl) rfl (LEs.cons (AV.le_eq rfl) LEs.nil) ⟨Has.cons (List.Mem.tail _ (List.Mem.head _)) Has.mk0, ?_⟩))
  refine P_q no34_0 rfl (op_slice_rowt (by kernel_rfl) rfl bnd_none (bnd_some rfl) (Int.le_refl _) hcr.1 hcr.2 ?_)
  refine P_q no34_0 rfl (op_len_row (by kernel_rfl) rfl ?_)
  refine P_nil ?_
  refine kC_normal ?_
  refine k_block ?_
  refine k_loop (fun i : Nat => (AF.put (AF.put (AF.put (AF.put (AF.put AF0 (some 0) (pA b 0)) (some 4) (.clo 70 [pA kb 0])) (some 30) (.row 3 (opE hb) (D.pend.take c.toNat))) (some 31) (.exact (.int .i64 ((D.pend.take c.toNat).length : Int)))) (some 32) (.exact (.int .i64 (i : Int))))) (fun i : Nat => [boxI 22 kb [.row 1 cIn k.tail], boxI 81 b [.exact (.int .i64 D.cap), .exact (.map (some db)), .exact (.map (some db)), .row 3 (opE hb) D.pend, .exact (.int .i64 D.wr), .exact (.int .i64 D.fl), .exact (.bool D.dn)], dM hb db (List.foldl (fun l o => dkPf o l) D.dur (List.take i (D.pend.take c.toNat))), dH hb Z, dVs Z]) (fun i => i ≤ (D.pend.take c.toNat).length) (fun i => (D.pend.take c.toNat).length - i) 0 (Nat.zero_le _) ?_ (fun i hi => ?_)
  · exact SubU.to (SubU.trans SubU.f2 (SubU.trans SubU.drop (SubU.trans SubU.f4 (SubU.trans SubU.f4 (SubU.trans SubU.f4 (SubU.trans SubU.f4 (SubU.trans SubU.f4 ((SubU.of_le (AF.le_put (AV.le_eq rfl) (AF.le_put (AV.le_eq rfl) (AF.le_put (AV.le_eq rfl) (AF.le_put (AV.le_eq rfl) (AF.le_put (AV.le_eq rfl) (AF.le_top _)))))))))))))))
  · have hi' : i ≤ (D.pend.take c.toNat).length := hi
    refine k_seq ?_
    refine k_reg .free hmixP (by kernel_rfl) ?_
    refine G_q rfl (op_lss rfl rfl ?_)
    refine G_nil ?_
    refine kC_normal ?_
    refine k_seq ?_
    refine k_cond_d (p := (i : Int) < ((D.pend.take c.toNat).length : Int)) rfl (fun hc1 => ?_) (fun hc1 => ?_)
    · refine k_skip ?_
      refine kC_normal ?_
      refine k_seq ?_
      refine k_block ?_
      refine k_seq ?_
      refine k_reg .free hmixP (by kernel_rfl) ?_
      refine G_q rfl (op_index_row (by kernel_rfl) rfl rfl (by omega) hc1 ?_)
      refine G_q rfl (op_loadN rfl (by kernel_rfl) ?_)
      refine G_l rfl (op_alloc (c := [.exact (.string (bs [])), .exact (.string (bs [])), refA hb (-1)]) rfl (LEs.cons (AV.le_eq rfl) (LEs.cons (AV.le_eq rfl) (LEs.cons refA_nil LEs.nil))) (fun ob => ?_))
      refine G_l rfl (op_store_box (c' := [.exact (.string (bs (gi (D.pend.take c.toNat) (i : Int)).1)), .exact (.string (bs (gi (D.pend.take c.toNat) (i : Int)).2.1)), refA hb (gi (D.pend.take c.toNat) (i : Int)).2.2]) (c3 := [.exact (.string (bs (gi (D.pend.take c.toNat) (i : Int)).1)), .exact (.string (bs (gi (D.pend.take c.toNat) (i : Int)).2.1)), refA hb (gi (D.pend.take c.toNat) (i : Int)).2.2]) rfl rfl CellsOf.agg (LEs.cons (AV.le_eq rfl) (LEs.cons (AV.le_eq rfl) (LEs.cons (AV.le_eq rfl) LEs.nil))) (OneC.str (OneC.str (OneC.ref OneC.nil))) (by kernel_rfl) (Nat.le_of_ble_eq_true rfl) rfl ?_)
      refine G_nil ?_
      refine kC_normal ?_
      refine k_plan [] [(1, 0), (0, 1), (0, 2), (0, 3), (1, 4), (2, 5)] hmixP (by kernel_rfl) ?_
      refine P_r rfl (op_load_boxN (c' := [.exact (.string (bs (gi (D.pend.take c.toNat) (i : Int)).1)), .exact (.string (bs (gi (D.pend.take c.toNat) (i : Int)).2.1)), refA hb (gi (D.pend.take c.toNat) (i : Int)).2.2]) (by kernel_rfl) rfl rfl rfl ?_)
      refine P_q no34_0 rfl (op_move (av := pA b 0) rfl ?_)
      refine P_q no34_0 rfl (op_nilCheck rfl ?_)
      refine P_q no34_0 rfl (op_fieldAddr (o := 1) (by kernel_rfl) rfl ?_)
      refine P_r rfl (opR_f2 (op_load_box1 (a := .exact (.map (some db))) (by kernel_rfl) rfl rfl ?_))
      refine P_l rfl (opB_f3 (op_fun_1_0_1 (dk_perform (gi (D.pend.take c.toNat) (i : Int)).1 (gi (D.pend.take c.toNat) (i : Int)).2.1 (gi (D.pend.take c.toNat) (i : Int)).2.2 _) Try.func71 (by kernel_rfl) (LEs.cons (AV.le_eq rfl) (LEs.cons (AV.le_eq rfl) LEs.nil)) ?_))
      refine P_nil ?_
      refine kB_normal ?_
      refine kC_normal ?_
      refine k_reg .free hmixP (by kernel_rfl) ?_
      refine G_q rfl (op_add rfl rfl rfl ?_)
      refine G_q rfl (op_move (av := .exact (.int .i64 (i64 ((i : Int) + 1)))) rfl ?_)
      refine G_nil ?_
      have hlt : i < (D.pend.take c.toNat).length := by omega
      have hi64 : i64 ((i : Int) + 1) = ((i + 1 : Nat) : Int) := cr_succ (by have := hlt; rw [List.length_take] at this; omega)
      rw [hi64]
      refine kI_normal ⟨i + 1, hlt, by show _ - (i + 1) < _ - i; omega, ?_⟩
      rw [crF_step hlt]
      exact SubU.to (SubU.trans SubU.f1 (SubU.trans SubU.drop (SubU.trans SubU.f4 (SubU.trans SubU.f4 (SubU.trans SubU.f2 (SubU.trans SubU.f4 (SubU.trans SubU.f4 ((SubU.of_le (AF.le_put (AV.le_eq rfl) (AF.le_put (AV.le_eq rfl) (AF.le_put (AV.le_eq rfl) (AF.le_put (AV.le_eq rfl) (AF.le_put (AV.le_eq rfl) (AF.le_top _)))))))))))))))
    · refine k_exit ?_
      refine kC_exit ?_
      refine kI_exit ?_
      refine kB_exit ?_
      refine kC_normal ?_
      refine k_seq ?_
      refine k_seq ?_
      have he : i = (D.pend.take c.toNat).length := by omega
      have hcn : (List.foldl (fun l o => dkPf o l) D.dur (List.take i (D.pend.take c.toNat))) = (crN D c.toNat) := by rw [he, List.take_length]; rfl
      rw [hcn]
      refine k_reg .free hmixP (by kernel_rfl) ?_
      refine G_q rfl (op_move (av := pA b 0) rfl ?_)
      refine G_l rfl (opB_f2 (opB_f2 (op_fun_2_0_2 (dk_names (crN D c.toNat) hnl.2) Try.func72 (by kernel_rfl) (LEs.cons (AV.le_eq rfl) LEs.nil) ?_)))
      refine G_q rfl (op_len_row (by kernel_rfl) rfl ?_)
      refine G_q rfl (op_move (av := .exact (.int .i64 0)) rfl ?_)
      refine G_nil ?_
      refine kC_normal ?_
      refine k_block ?_
      refine k_loop (fun x : Nat × List DkZ × List Int => (AF.put (AF.put (AF.put (AF.put (AF.put AF0 (some 0) (pA b 0)) (some 4) (.clo 70 [pA kb 0])) (some 44) (.row 1 cSt (nms (crN D c.toNat)))) (some 45) (.exact (.int .i64 ((nms (crN D c.toNat)).length : Int)))) (some 46) (.exact (.int .i64 (x.1 : Int))))) (fun x : Nat × List DkZ × List Int => [boxI 22 kb [.row 1 cIn x.2.2], boxI 81 b [.exact (.int .i64 D.cap), .exact (.map (some db)), .exact (.map (some db)), .row 3 (opE hb) D.pend, .exact (.int .i64 D.wr), .exact (.int .i64 D.fl), .exact (.bool D.dn)], dM hb db (crN D c.toNat), dH hb x.2.1, dVs x.2.1]) (fun x : Nat × List DkZ × List Int => x.1 ≤ (nms (crN D c.toNat)).length ∧ crL (crN D c.toNat) ((nms (crN D c.toNat)).drop x.1) (x.2.1.map (·.2)) x.2.2 = some F) (fun x => (nms (crN D c.toNat)).length - x.1) (0, Z, k.tail) ⟨Nat.zero_le _, by rw [← hZ]; exact hF⟩ ?_ (fun x hx => ?_)
      · exact SubU.to (SubU.trans SubU.f4 (SubU.trans SubU.f4 (SubU.trans SubU.f3 (SubU.trans SubU.f3 (SubU.trans SubU.f4 ((SubU.of_le (AF.le_put (AV.le_eq rfl) (AF.le_put (AV.le_eq rfl) (AF.le_put (AV.le_eq rfl) (AF.le_put (AV.le_eq rfl) (AF.le_put (AV.le_eq rfl) (AF.le_top _)))))))))))))
      · obtain ⟨j, Z1, k1⟩ := x
        obtain ⟨hj, hB⟩ := hx
        replace hj : j ≤ (nms (crN D c.toNat)).length := hj
        replace hB : crL (crN D c.toNat) ((nms (crN D c.toNat)).drop j) (Z1.map (·.2)) k1 = some F := hB
        refine k_seq ?_
        refine k_reg .free hmixP (by kernel_rfl) ?_
        refine G_q rfl (op_lss rfl rfl ?_)
        refine G_nil ?_
        refine kC_normal ?_
        refine k_seq ?_
        refine k_cond_d (p := (j : Int) < ((nms (crN D c.toNat)).length : Int)) rfl (fun hc2 => ?_) (fun hc2 => ?_)
        · refine k_skip ?_
          refine kC_normal ?_
          refine k_seq ?_
          refine k_block ?_
          refine k_seq ?_
          have hlt : j < (nms (crN D c.toNat)).length := by omega
          rw [drop_gi hlt] at hB
          obtain ⟨n1, hB⟩ := crL_cons hB
          have hr : 0 ≤ (lookL (crN D c.toNat) (gi (nms (crN D c.toNat)) (j : Int))).getD (-1) ∧ (lookL (crN D c.toNat) (gi (nms (crN D c.toNat)) (j : Int))).getD (-1) < (Z1.length : Int) := by rw [List.length_map] at n1; exact n1
          rw [gi_map hr.1 hr.2] at hB
          refine k_reg .free hmixP (by kernel_rfl) ?_
          refine G_q rfl (op_index_row (by kernel_rfl) rfl rfl (by omega) hc2 ?_)
          refine G_q rfl (op_load1p (a := .exact (.string (bs (gi (nms (crN D c.toNat)) (j : Int))))) (by kernel_rfl) rfl rfl ?_)
          refine G_q rfl (op_assign (av := .exact (.string (bs (gi (nms (crN D c.toNat)) (j : Int))))) rfl ?_)
          refine G_nil ?_
          refine kC_normal ?_
          refine k_seq ?_
          refine k_reg .free hmixP (by kernel_rfl) ?_
          refine G_q rfl (op_move (av := pA b 0) rfl ?_)
          refine G_q rfl (op_nilCheck rfl ?_)
          refine G_q rfl (op_fieldAddr (o := 1) (by kernel_rfl) rfl ?_)
          refine G_r rfl (opR_f1 (op_load_box1 (a := .exact (.map (some db))) (by kernel_rfl) rfl rfl ?_))
          refine G_q rfl (op_move (av := .exact (.string (bs (gi (nms (crN D c.toNat)) (j : Int))))) rfl ?_)
          refine G_r rfl (op_mlook (z := ((-1) : Int)) (List.Mem.tail _ (List.Mem.tail _ (List.Mem.head _))) (keyOk_str Try.underlying9) (fun _ _ _ => trivial) Try.underlying78 (fun _ w => ⟨_, Try.zeroValue88 w, zp_ref⟩) rfl (keyAV_str rfl) ?_)
          refine G_q rfl (op_assign (av := refA hb ((lookL (crN D c.toNat) (gi (nms (crN D c.toNat)) (j : Int))).getD (-1))) rfl ?_)
          refine G_nil ?_
          refine kC_normal ?_
          refine k_seq ?_
          refine k_plan [] [(0, 0), (0, 1), (0, 2), (1, 3), (1, 4), (0, 5), (0, 6), (0, 7), (1, 8), (0, 9), (0, 10)] hmixP (by kernel_rfl) ?_
          refine P_q no34_0 rfl (op_move (av := refA hb ((lookL (crN D c.toNat) (gi (nms (crN D c.toNat)) (j : Int))).getD (-1))) rfl ?_)
          refine P_q no34_0 rfl (op_nilC_ref rfl (by omega) ?_)
          refine P_q no34_0 rfl (op_field_hpt (o := 0) (by kernel_rfl) rfl ?_)
          refine P_r rfl (op_load_hpt (t := 87) (enc := fEnc) (H := Z1) (a := .exact (gi Z1 ((lookL (crN D c.toNat) (gi (nms (crN D c.toNat)) (j : Int))).getD (-1))).1) (List.Mem.tail _ (List.Mem.tail _ (List.Mem.tail _ (List.Mem.head _)))) (by kernel_rfl) rfl rfl ?_)
          refine P_r rfl (op_len_dVs (i := ((lookL (crN D c.toNat) (gi (nms (crN D c.toNat)) (j : Int))).getD (-1))) (Z := Z1) (List.Mem.tail _ (List.Mem.tail _ (List.Mem.tail _ (List.Mem.tail _ (List.Mem.head _))))) (by kernel_rfl) hr.1 hr.2 rfl ?_)
          refine P_q no34_0 rfl (op_move (av := refA hb ((lookL (crN D c.toNat) (gi (nms (crN D c.toNat)) (j : Int))).getD (-1))) rfl ?_)
          refine P_q no34_0 rfl (op_nilC_ref rfl (by omega) ?_)
          refine P_q no34_0 rfl (op_field_hpt (o := 1) (by kernel_rfl) rfl ?_)
          refine P_r rfl (op_load_hpt (t := 87) (enc := fEnc) (H := Z1) (a := .exact (.int .i64 ((gi Z1 ((lookL (crN D c.toNat) (gi (nms (crN D c.toNat)) (j : Int))).getD (-1))).2.2))) (List.Mem.tail _ (List.Mem.tail _ (List.Mem.tail _ (List.Mem.head _)))) (by kernel_rfl) rfl rfl ?_)
          refine P_q no34_0 rfl (op_sub rfl rfl rfl ?_)
          refine P_q no34_0 rfl (op_assign (av := .exact (.int .i64 (i64 (((gi Z1 ((lookL (crN D c.toNat) (gi (nms (crN D c.toNat)) (j : Int))).getD (-1))).2.1.length : Int) - ((gi Z1 ((lookL (crN D c.toNat) (gi (nms (crN D c.toNat)) (j : Int))).getD (-1))).2.2))))) rfl ?_)
          refine P_nil ?_
          refine kC_normal ?_
          refine k_seq ?_
          refine k_reg .free hmixP (by kernel_rfl) ?_
          refine G_q rfl (op_move (av := .exact (.int .i64 (i64 (((gi Z1 ((lookL (crN D c.toNat) (gi (nms (crN D c.toNat)) (j : Int))).getD (-1))).2.1.length : Int) - ((gi Z1 ((lookL (crN D c.toNat) (gi (nms (crN D c.toNat)) (j : Int))).getD (-1))).2.2))))) rfl ?_)
          refine G_q rfl (op_gtr rfl rfl ?_)
          refine G_nil ?_
          refine kC_normal ?_
          refine k_cond_d (p := 0 < (i64 (((gi Z1 ((lookL (crN D c.toNat) (gi (nms (crN D c.toNat)) (j : Int))).getD (-1))).2.1.length : Int) - ((gi Z1 ((lookL (crN D c.toNat) (gi (nms (crN D c.toNat)) (j : Int))).getD (-1))).2.2)))) rfl (fun hc3 => ?_) (fun hc3 => ?_)
          · refine k_seq ?_
            rw [if_pos hc3] at hB
            obtain ⟨y, hy, hB⟩ := bnd1_some hB
            obtain ⟨n2, hB⟩ := need_some hB
            refine k_plan [dH hb Z1] [(0, 0), (0, 1), (0, 2), (4, 3), (0, 4), (0, 5), (3, 6), (0, 7), (0, 8), (0, 9), (2, 10)] hmixP (by kernel_rfl) ?_
            refine P_q no34_0 rfl (op_move (av := refA hb ((lookL (crN D c.toNat) (gi (nms (crN D c.toNat)) (j : Int))).getD (-1))) rfl ?_)
            refine P_q no34_0 rfl (op_nilC_ref rfl (by omega) ?_)
            refine P_q no34_0 rfl (op_field_hpt (o := 1) (by kernel_rfl) rfl ?_)
            refine P_r4 (Has.cons (List.Mem.tail _ (List.Mem.tail _ (List.Mem.tail _ (List.Mem.head _)))) Has.mk0) rfl (opI_mk (List.Mem.head _) (fun _ => op_load_hpt (t := 87) (enc := fEnc) (H := Z1) (a := .exact (.int .i64 ((gi Z1 ((lookL (crN D c.toNat) (gi (nms (crN D c.toNat)) (j : Int))).getD (-1))).2.2))) (List.Mem.head _) (by kernel_rfl) rfl rfl rfl) ?_)
            refine P_q no34_0 rfl (op_move (av := .clo 70 [pA kb 0]) rfl ?_)
            refine P_q no34_0 rfl (op_move (av := .exact (.int .i64 (i64 (((gi Z1 ((lookL (crN D c.toNat) (gi (nms (crN D c.toNat)) (j : Int))).getD (-1))).2.1.length : Int) - ((gi Z1 ((lookL (crN D c.toNat) (gi (nms (crN D c.toNat)) (j : Int))).getD (-1))).2.2))))) rfl ?_)
            refine P_l3 rfl (op_callClo1 (dk_next k1 (i64 (((gi Z1 ((lookL (crN D c.toNat) (gi (nms (crN D c.toNat)) (j : Int))).getD (-1))).2.1.length : Int) - (gi Z1 ((lookL (crN D c.toNat) (gi (nms (crN D c.toNat)) (j : Int))).getD (-1))).2.2)) y hy) Try.func70 (by kernel_rfl) rfl (LEs.cons (AV.le_eq rfl) LEs.nil) ⟨Has.cons (List.Mem.tail _ (List.Mem.tail _ (List.Mem.tail _ (List.Mem.head _)))) Has.mk0, ?_⟩)
            refine P_q no34_0 rfl (op_add rfl rfl rfl ?_)
            refine P_q no34_0 rfl (op_nilC_ref rfl (by omega) ?_)
            refine P_q no34_0 rfl (op_field_hpt (o := 1) (by kernel_rfl) rfl ?_)
            refine P_l rfl (opB_f3 (op_store_hpt (i := ((lookL (crN D c.toNat) (gi (nms (crN D c.toNat)) (j : Int))).getD (-1))) (o := 1) (z := ((gi Z1 ((lookL (crN D c.toNat) (gi (nms (crN D c.toNat)) (j : Int))).getD (-1))).1, (gi Z1 ((lookL (crN D c.toNat) (gi (nms (crN D c.toNat)) (j : Int))).getD (-1))).2.1, i64 (((gi Z1 ((lookL (crN D c.toNat) (gi (nms (crN D c.toNat)) (j : Int))).getD (-1))).2.2) + y))) (c' := [.exact (.int .i64 (i64 (((gi Z1 ((lookL (crN D c.toNat) (gi (nms (crN D c.toNat)) (j : Int))).getD (-1))).2.2) + y)))]) rfl rfl CellsOf.int (LEs.cons (AV.le_eq rfl) LEs.nil) (OneC.int OneC.nil) (by kernel_rfl) (Nat.le_of_ble_eq_true rfl) rfl ?_))
            refine P_nil ?_
            refine kC_normal ?_
            refine awp_sub (SubU.to (SubU.trans SubU.f4 ((SubU.takeG (f := dV) (l := Z1) hr.1 hr.2)))) ?_
            have hg15 : gi (Z1.set (((lookL (crN D c.toNat) (gi (nms (crN D c.toNat)) (j : Int))).getD (-1))).toNat ((gi Z1 ((lookL (crN D c.toNat) (gi (nms (crN D c.toNat)) (j : Int))).getD (-1))).1, (gi Z1 ((lookL (crN D c.toNat) (gi (nms (crN D c.toNat)) (j : Int))).getD (-1))).2.1, i64 (((gi Z1 ((lookL (crN D c.toNat) (gi (nms (crN D c.toNat)) (j : Int))).getD (-1))).2.2) + y))) ((lookL (crN D c.toNat) (gi (nms (crN D c.toNat)) (j : Int))).getD (-1)) = ((gi Z1 ((lookL (crN D c.toNat) (gi (nms (crN D c.toNat)) (j : Int))).getD (-1))).1, (gi Z1 ((lookL (crN D c.toNat) (gi (nms (crN D c.toNat)) (j : Int))).getD (-1))).2.1, i64 ((gi Z1 ((lookL (crN D c.toNat) (gi (nms (crN D c.toNat)) (j : Int))).getD (-1))).2.2 + y)) := gi_setS hr.1 hr.2
            refine k_plan [] [(0, 0), (0, 1), (0, 2), (0, 3), (1, 4), (0, 5), (0, 6), (0, 7), (1, 8), (0, 9), (0, 10), (0, 11), (1, 12), (2, 13), (0, 14), (0, 15), (2, 16)] hmixP (by kernel_rfl) ?_
            refine P_q no34_0 rfl (op_move (av := refA hb ((lookL (crN D c.toNat) (gi (nms (crN D c.toNat)) (j : Int))).getD (-1))) rfl ?_)
            refine P_q no34_0 rfl (op_move (av := refA hb ((lookL (crN D c.toNat) (gi (nms (crN D c.toNat)) (j : Int))).getD (-1))) rfl ?_)
            refine P_q no34_0 rfl (op_nilC_ref rfl (by omega) ?_)
            refine P_q no34_0 rfl (op_field_hpt (o := 0) (by kernel_rfl) rfl ?_)
            refine P_r rfl (op_load_hpt (t := 87) (enc := fEnc) (H := Z1.set (((lookL (crN D c.toNat) (gi (nms (crN D c.toNat)) (j : Int))).getD (-1))).toNat ((gi Z1 ((lookL (crN D c.toNat) (gi (nms (crN D c.toNat)) (j : Int))).getD (-1))).1, (gi Z1 ((lookL (crN D c.toNat) (gi (nms (crN D c.toNat)) (j : Int))).getD (-1))).2.1, i64 (((gi Z1 ((lookL (crN D c.toNat) (gi (nms (crN D c.toNat)) (j : Int))).getD (-1))).2.2) + y))) (a := .exact (gi Z1 ((lookL (crN D c.toNat) (gi (nms (crN D c.toNat)) (j : Int))).getD (-1))).1) (List.Mem.tail _ (List.Mem.tail _ (List.Mem.head _))) (by kernel_rfl) rfl (by rw [hg15]; rfl) ?_)
            refine P_q no34_0 rfl (op_move (av := refA hb ((lookL (crN D c.toNat) (gi (nms (crN D c.toNat)) (j : Int))).getD (-1))) rfl ?_)
            refine P_q no34_0 rfl (op_nilC_ref rfl (by omega) ?_)
            refine P_q no34_0 rfl (op_field_hpt (o := 1) (by kernel_rfl) rfl ?_)
            refine P_r rfl (op_load_hpt (t := 87) (enc := fEnc) (H := Z1.set (((lookL (crN D c.toNat) (gi (nms (crN D c.toNat)) (j : Int))).getD (-1))).toNat ((gi Z1 ((lookL (crN D c.toNat) (gi (nms (crN D c.toNat)) (j : Int))).getD (-1))).1, (gi Z1 ((lookL (crN D c.toNat) (gi (nms (crN D c.toNat)) (j : Int))).getD (-1))).2.1, i64 (((gi Z1 ((lookL (crN D c.toNat) (gi (nms (crN D c.toNat)) (j : Int))).getD (-1))).2.2) + y))) (a := .exact (.int .i64 (i64 ((gi Z1 ((lookL (crN D c.toNat) (gi (nms (crN D c.toNat)) (j : Int))).getD (-1))).2.2 + y)))) (List.Mem.tail _ (List.Mem.tail _ (List.Mem.head _))) (by kernel_rfl) rfl (by rw [hg15]; rfl) ?_)
            refine P_q no34_0 rfl (op_move (av := refA hb ((lookL (crN D c.toNat) (gi (nms (crN D c.toNat)) (j : Int))).getD (-1))) rfl ?_)
            refine P_q no34_0 rfl (op_nilC_ref rfl (by omega) ?_)
            refine P_q no34_0 rfl (op_field_hpt (o := 1) (by kernel_rfl) rfl ?_)
            refine P_r rfl (op_load_hpt (t := 87) (enc := fEnc) (H := Z1.set (((lookL (crN D c.toNat) (gi (nms (crN D c.toNat)) (j : Int))).getD (-1))).toNat ((gi Z1 ((lookL (crN D c.toNat) (gi (nms (crN D c.toNat)) (j : Int))).getD (-1))).1, (gi Z1 ((lookL (crN D c.toNat) (gi (nms (crN D c.toNat)) (j : Int))).getD (-1))).2.1, i64 (((gi Z1 ((lookL (crN D c.toNat) (gi (nms (crN D c.toNat)) (j : Int))).getD (-1))).2.2) + y))) (a := .exact (.int .i64 (i64 ((gi Z1 ((lookL (crN D c.toNat) (gi (nms (crN D c.toNat)) (j : Int))).getD (-1))).2.2 + y)))) (List.Mem.tail _ (List.Mem.tail _ (List.Mem.head _))) (by kernel_rfl) rfl (by rw [hg15]; rfl) ?_)
            refine P_l rfl (op_cutO (by kernel_rfl) (fun _ => rfl) rfl rfl rfl n2.1 n2.2 (fun v' => ?_))
            refine P_q no34_0 rfl (op_nilC_ref rfl (by omega) ?_)
            refine P_q no34_0 rfl (op_field_hpt (o := 0) (by kernel_rfl) rfl ?_)
            refine P_l rfl (opB_slO (List.Mem.head _) (fun hsl => opB_f2 (op_store_hpt (i := (lookL (crN D c.toNat) (gi (nms (crN D c.toNat)) (j : Int))).getD (-1)) (o := 0) (z := (v', (gi Z1 ((lookL (crN D c.toNat) (gi (nms (crN D c.toNat)) (j : Int))).getD (-1))).2.1.take (i64 ((gi Z1 ((lookL (crN D c.toNat) (gi (nms (crN D c.toNat)) (j : Int))).getD (-1))).2.2 + y)).toNat, i64 ((gi Z1 ((lookL (crN D c.toNat) (gi (nms (crN D c.toNat)) (j : Int))).getD (-1))).2.2 + y))) (c' := [.exact v']) rfl rfl (CellsOf.sl hsl) (LEs.cons (AV.le_eq rfl) LEs.nil) (OneC.sl hsl OneC.nil) (by kernel_rfl) (Nat.le_of_ble_eq_true rfl) (by rw [hg15]; rfl) ?_)))
            refine P_nil ?_
            refine kB_normal ?_
            refine kC_normal ?_
            refine k_reg .free hmixP (by kernel_rfl) ?_
            refine G_q rfl (op_add rfl rfl rfl ?_)
            refine G_q rfl (op_move (av := .exact (.int .i64 (i64 ((j : Int) + 1)))) rfl ?_)
            refine G_nil ?_
            have hi64 : i64 ((j : Int) + 1) = ((j + 1 : Nat) : Int) := cr_succ (by rw [nms_len] at hlt; omega)
            rw [hi64]
            rw [List.set_set]
            refine kI_normal ⟨(j + 1, Z1.set ((lookL (crN D c.toNat) (gi (nms (crN D c.toNat)) (j : Int))).getD (-1)).toNat (v', (gi Z1 ((lookL (crN D c.toNat) (gi (nms (crN D c.toNat)) (j : Int))).getD (-1))).2.1.take (i64 ((gi Z1 ((lookL (crN D c.toNat) (gi (nms (crN D c.toNat)) (j : Int))).getD (-1))).2.2 + y)).toNat, i64 ((gi Z1 ((lookL (crN D c.toNat) (gi (nms (crN D c.toNat)) (j : Int))).getD (-1))).2.2 + y)), k1.tail), ⟨hlt, ?_⟩, by show _ - (j + 1) < _ - j; omega, ?_⟩
            · show crL _ _ (List.map _ _) _ = _; rw [List.map_set]; exact hB
            · exact SubU.to (SubU.trans SubU.f2 (SubU.trans SubU.f2 (SubU.trans (SubU.putG (f := dV) (x := (v', (gi Z1 ((lookL (crN D c.toNat) (gi (nms (crN D c.toNat)) (j : Int))).getD (-1))).2.1.take (i64 ((gi Z1 ((lookL (crN D c.toNat) (gi (nms (crN D c.toNat)) (j : Int))).getD (-1))).2.2 + y)).toNat, i64 ((gi Z1 ((lookL (crN D c.toNat) (gi (nms (crN D c.toNat)) (j : Int))).getD (-1))).2.2 + y))) hr.1 hr.2) (SubU.trans SubU.f1 (SubU.trans SubU.f4 (SubU.trans SubU.f4 (SubU.trans SubU.f4 ((SubU.of_le (AF.le_put (AV.le_eq rfl) (AF.le_put (AV.le_eq rfl) (AF.le_put (AV.le_eq rfl) (AF.le_put (AV.le_eq rfl) (AF.le_put (AV.le_eq rfl) (AF.le_top _)))))))))))))))
          · refine k_skip ?_
            refine kB_normal ?_
            refine kC_normal ?_
            refine k_reg .free hmixP (by kernel_rfl) ?_
            refine G_q rfl (op_add rfl rfl rfl ?_)
            refine G_q rfl (op_move (av := .exact (.int .i64 (i64 ((j : Int) + 1)))) rfl ?_)
            refine G_nil ?_
            have hi64 : i64 ((j : Int) + 1) = ((j + 1 : Nat) : Int) := cr_succ (by rw [nms_len] at hlt; omega)
            rw [hi64]
            rw [if_neg hc3] at hB
            refine kI_normal ⟨(j + 1, Z1, k1), ⟨hlt, hB⟩, by show _ - (j + 1) < _ - j; omega, ?_⟩
            exact SubU.to (SubU.trans SubU.f4 (SubU.trans SubU.f4 (SubU.trans SubU.f4 (SubU.trans SubU.f4 (SubU.trans SubU.f4 ((SubU.of_le (AF.le_put (AV.le_eq rfl) (AF.le_put (AV.le_eq rfl) (AF.le_put (AV.le_eq rfl) (AF.le_put (AV.le_eq rfl) (AF.le_put (AV.le_eq rfl) (AF.le_top _)))))))))))))
        · refine k_exit ?_
          refine kC_exit ?_
          refine kI_exit ?_
          refine kB_exit ?_
          refine kC_normal ?_
          refine k_seq ?_
          have hjl : j = (nms (crN D c.toNat)).length := by omega
          have hF2 : Z1.map (·.2) = F := by rw [hjl, List.drop_length] at hB; exact Option.some.inj hB
          refine k_reg .free hmixP (by kernel_rfl) ?_
          refine G_q rfl (op_move (av := pA b 0) rfl ?_)
          refine G_q rfl (op_move (av := pA b 0) rfl ?_)
          refine G_q rfl (op_nilCheck rfl ?_)
          refine G_q rfl (op_fieldAddr (o := 1) (by kernel_rfl) rfl ?_)
          refine G_r rfl (opR_f1 (op_load_box1 (a := .exact (.map (some db))) (by kernel_rfl) rfl rfl ?_))
          refine G_l rfl (opB_f2 (op_fun_1_1_2 dk_clone Try.func73 (by kernel_rfl) (LEs.cons (AV.le_eq rfl) LEs.nil) (fun nc => ?_)))
          refine G_q rfl (op_nilCheck rfl ?_)
          refine G_q rfl (op_fieldAddr (o := 2) (by kernel_rfl) rfl ?_)
          refine G_l rfl (opB_f3 (op_store_box (c' := [.exact (.map (some nc))]) (c3 := [.exact (.int .i64 D.cap), .exact (.map (some db)), .exact (.map (some nc)), .row 3 (opE hb) D.pend, .exact (.int .i64 D.wr), .exact (.int .i64 D.fl), .exact (.bool D.dn)]) rfl rfl CellsOf.mapz (LEs.cons (AV.le_eq rfl) LEs.nil) (OneC.mapz OneC.nil) (by kernel_rfl) (Nat.le_of_ble_eq_true rfl) rfl ?_))
          refine G_nil ?_
          refine kC_normal ?_
          refine k_reg .free hmixP (by kernel_rfl) ?_
          refine G_q rfl (op_move (av := pA b 0) rfl ?_)
          refine G_q rfl (op_move (av := pA b 0) rfl ?_)
          refine G_q rfl (op_move (av := pA b 0) rfl ?_)
          refine G_q rfl (op_move (av := pA b 0) rfl ?_)
          refine G_q rfl (op_nilCheck rfl ?_)
          refine G_q rfl (op_fieldAddr (o := 3) (by kernel_rfl) rfl ?_)
          refine G_l rfl (op_store_box (c' := [.exact (.slice none 0 0)]) (c3 := [.exact (.int .i64 D.cap), .exact (.map (some db)), .exact (.map (some nc)), .exact (.slice none 0 0), .exact (.int .i64 D.wr), .exact (.int .i64 D.fl), .exact (.bool D.dn)]) rfl rfl CellsOf.slice (LEs.cons (AV.le_eq rfl) LEs.nil) OneC.nilc (by kernel_rfl) (Nat.le_of_ble_eq_true rfl) rfl ?_)
          refine G_q rfl (op_nilCheck rfl ?_)
          refine G_q rfl (op_fieldAddr (o := 4) (by kernel_rfl) rfl ?_)
          refine G_l rfl (op_store_box (c' := [.exact (.int .i64 0)]) (c3 := [.exact (.int .i64 D.cap), .exact (.map (some db)), .exact (.map (some nc)), .exact (.slice none 0 0), .exact (.int .i64 0), .exact (.int .i64 D.fl), .exact (.bool D.dn)]) rfl rfl CellsOf.int (LEs.cons (AV.le_eq rfl) LEs.nil) (OneC.int OneC.nil) (by kernel_rfl) (Nat.le_of_ble_eq_true rfl) rfl ?_)
          refine G_q rfl (op_nilCheck rfl ?_)
          refine G_q rfl (op_fieldAddr (o := 5) (by kernel_rfl) rfl ?_)
          refine G_l rfl (op_store_box (c' := [.exact (.int .i64 0)]) (c3 := [.exact (.int .i64 D.cap), .exact (.map (some db)), .exact (.map (some nc)), .exact (.slice none 0 0), .exact (.int .i64 0), .exact (.int .i64 0), .exact (.bool D.dn)]) rfl rfl CellsOf.int (LEs.cons (AV.le_eq rfl) LEs.nil) (OneC.int OneC.nil) (by kernel_rfl) (Nat.le_of_ble_eq_true rfl) rfl ?_)
          refine G_q rfl (op_nilCheck rfl ?_)
          refine G_q rfl (op_fieldAddr (o := 6) (by kernel_rfl) rfl ?_)
          refine G_l rfl (op_store_box (c' := [.exact (.bool false)]) (c3 := [.exact (.int .i64 D.cap), .exact (.map (some db)), .exact (.map (some nc)), .exact (.slice none 0 0), .exact (.int .i64 0), .exact (.int .i64 0), .exact (.bool false)]) rfl rfl CellsOf.bool (LEs.cons (AV.le_eq rfl) LEs.nil) (OneC.bool OneC.nil) (by kernel_rfl) (Nat.le_of_ble_eq_true rfl) rfl ?_)
          refine G_nil ?_
          refine kP_any (endNn (af' := AF0) (σ' := [boxI 81 b [.exact (.int .i64 D.cap), .exact (.map (some db)), .exact (.map (some nc)), .exact (.slice none 0 0), .exact (.int .i64 0), .exact (.int .i64 0), .exact (.bool false)], dM hb db (crN D c.toNat), dM hb nc (crN D c.toNat), dP hb (.slice none 0 0) [], dH hb Z1, dVs Z1]) _ rfl (SubU.to (SubU.trans SubU.f3 (SubU.trans SubU.drop (SubU.trans (SubU.nilT (P := Try.prog) (t := 79) (n := 3) (enc := opE hb)) (SubU.trans SubU.f5 (SubU.trans SubU.f5 (SubU.trans SubU.f2 (SubU.trans SubU.f4 (SubU.trans SubU.f5 (SubU.trans SubU.f5 ((SubU.of_le (AF.le_top _))))))))))))) ?_)
          exact ⟨db, nc, .slice none 0 0, Z1, hF2.symm, rfl, rfl⟩
end Go.Proofs.Ytkplmgdmkfgjhaa
/- A disk as one thing in use: Fail and Crash. -/
namespace Go.Proofs.Ytkplmgdmkfgjhaa
open Go.RowKit Go.Maps
theorem m_disk_Fail_ok {w0 : Nat} {o0 : List Nat} (a0 : Dk) (a1 : Int) (r : Dk) (h : m_disk_Fail a0 a1 = some r) : Fun Try.prog 34 [pA w0 0, .exact (.int .i64 a1)] [dskI w0 o0 a0] (fun a s => ∃ o', a = .tup [] ∧ s = [dskI w0 o' r]) := by
  cases h
  refine Fun.dsk fun hb nb db pv Z hZ => fun F w vs hg hf => ((dk_fail a0 a1).frame [dM hb nb a0.names, dM hb db a0.dur, dP hb pv a0.pend, dH hb Z, dVs Z] F w vs hg hf).mono fun e w' ⟨v, he, av, σ', ⟨s', ⟨g2, g3⟩, g4⟩, k⟩ => ⟨v, he, av, σ', ⟨hb, nb, db, pv, Z, ?_, g2, ?_⟩, k⟩
  · split <;> exact hZ
  · rw [g4, g3]; split <;> rfl
theorem m_disk_Crash_ok {w0 : Nat} {o0 : List Nat} (a0 : Dk) (a1 : List Int) (r : Dk) (h : m_disk_Crash a0 a1 = some r) : Fun Try.prog 38 [pA w0 0, .row 1 cIn a1] [dskI w0 o0 a0] (fun a s => ∃ o', a = .tup [] ∧ s = [dskI w0 o' r]) :=
  Fun.dsk fun hb nb db pv Z hZ => fun F w vs hg hf => (dk_crash a1 a0 hZ r h F w vs hg hf).mono fun e w' ⟨v, he, av, σ', ⟨nb', db', pv', Z', g1, g2, g3⟩, k⟩ => ⟨v, he, av, σ', ⟨hb, nb', db', pv', Z', g1, g2, g3⟩, k⟩
section
variable {P : Program} {E : Env} {n : Nat} {af : AF} {σ : Items} {ks : List KFr} {x y : Code} {ρ : Type} {r : ρ}
theorem k_join11_1 {α0 α1 α2 α3 α4 α5 α6 α7 α8 α9 α10 γ0 : Type} {k : (α0 → α1 → α2 → α3 → α4 → α5 → α6 → α7 → α8 → α9 → α10 → Option ρ)} {m : (α0 → α1 → α2 → α3 → α4 → α5 → α6 → α7 → α8 → α9 → α10 → Option ρ) → Option ρ} (h : jn k m = some r) (I : α0 → α1 → α2 → α3 → α4 → α5 → α6 → α7 → α8 → α9 → α10 → γ0 → AF) (S : α0 → α1 → α2 → α3 → α4 → α5 → α6 → α7 → α8 → α9 → α10 → γ0 → Items)
    (h1 : ∀ k' : (α0 → α1 → α2 → α3 → α4 → α5 → α6 → α7 → α8 → α9 → α10 → Option ρ), m k' = some r → awp P E n x (den P E n (kI (fun af' σ' => ∃ a0 a1 a2 a3 a4 a5 a6 a7 a8 a9 a10 g0, k' a0 a1 a2 a3 a4 a5 a6 a7 a8 a9 a10 = some r ∧ Sub E n af' σ' (I a0 a1 a2 a3 a4 a5 a6 a7 a8 a9 a10 g0) (S a0 a1 a2 a3 a4 a5 a6 a7 a8 a9 a10 g0)) :: ks)) af σ)
    (h2 : ∀ a0 a1 a2 a3 a4 a5 a6 a7 a8 a9 a10 g0, k a0 a1 a2 a3 a4 a5 a6 a7 a8 a9 a10 = some r → awp P E n y (den P E n ks) (I a0 a1 a2 a3 a4 a5 a6 a7 a8 a9 a10 g0) (S a0 a1 a2 a3 a4 a5 a6 a7 a8 a9 a10 g0)) : awp P E n (.seq x y) (den P E n ks) af σ := by
  refine k_seq (fun a w hh => wp_mono (h1 k h a w hh) ?_)
  rintro e a' w' ⟨af', σ', hh', h'⟩
  cases e with
  | normal =>
    obtain ⟨a0, a1, a2, a3, a4, a5, a6, a7, a8, a9, a10, g0, h3, h4⟩ := h'
    exact ⟨_, _, h4 _ _ hh', h2 a0 a1 a2 a3 a4 a5 a6 a7 a8 a9 a10 g0 h3⟩
  | _ => exact ⟨af', σ', hh', h'⟩
theorem k_loop12_1 {α0 α1 α2 α3 α4 α5 α6 α7 α8 α9 α10 α11 γ0 : Type} (L : Nat → (α0 → α1 → α2 → α3 → α4 → α5 → α6 → α7 → α8 → α9 → α10 → α11 → Option ρ)) (B : (α0 → α1 → α2 → α3 → α4 → α5 → α6 → α7 → α8 → α9 → α10 → α11 → Option ρ) → (α0 → α1 → α2 → α3 → α4 → α5 → α6 → α7 → α8 → α9 → α10 → α11 → Option ρ)) (hz : ∀ a0 a1 a2 a3 a4 a5 a6 a7 a8 a9 a10 a11, L 0 a0 a1 a2 a3 a4 a5 a6 a7 a8 a9 a10 a11 = none) (hs : ∀ m, ∀ a0 a1 a2 a3 a4 a5 a6 a7 a8 a9 a10 a11, L (m + 1) a0 a1 a2 a3 a4 a5 a6 a7 a8 a9 a10 a11 = B (L m) a0 a1 a2 a3 a4 a5 a6 a7 a8 a9 a10 a11) {m0 : Nat} {b0 : α0} {b1 : α1} {b2 : α2} {b3 : α3} {b4 : α4} {b5 : α5} {b6 : α6} {b7 : α7} {b8 : α8} {b9 : α9} {b10 : α10} {b11 : α11} (h : L m0 b0 b1 b2 b3 b4 b5 b6 b7 b8 b9 b10 b11 = some r)
    (I : α0 → α1 → α2 → α3 → α4 → α5 → α6 → α7 → α8 → α9 → α10 → α11 → γ0 → AF) (S : α0 → α1 → α2 → α3 → α4 → α5 → α6 → α7 → α8 → α9 → α10 → α11 → γ0 → Items) (c0 : γ0) (start : Sub E n af σ (I b0 b1 b2 b3 b4 b5 b6 b7 b8 b9 b10 b11 c0) (S b0 b1 b2 b3 b4 b5 b6 b7 b8 b9 b10 b11 c0))
    (round : ∀ rec : (α0 → α1 → α2 → α3 → α4 → α5 → α6 → α7 → α8 → α9 → α10 → α11 → Option ρ), ∀ a0 a1 a2 a3 a4 a5 a6 a7 a8 a9 a10 a11 g0, B rec a0 a1 a2 a3 a4 a5 a6 a7 a8 a9 a10 a11 = some r → awp P E n x (den P E n (kI (fun af' σ' => ∃ a0 a1 a2 a3 a4 a5 a6 a7 a8 a9 a10 a11 g0, rec a0 a1 a2 a3 a4 a5 a6 a7 a8 a9 a10 a11 = some r ∧ Sub E n af' σ' (I a0 a1 a2 a3 a4 a5 a6 a7 a8 a9 a10 a11 g0) (S a0 a1 a2 a3 a4 a5 a6 a7 a8 a9 a10 a11 g0)) :: ks)) (I a0 a1 a2 a3 a4 a5 a6 a7 a8 a9 a10 a11 g0) (S a0 a1 a2 a3 a4 a5 a6 a7 a8 a9 a10 a11 g0)) : awp P E n (.loop x) (den P E n ks) af σ := by
  refine awp_loop (α := Nat × α0 × α1 × α2 × α3 × α4 × α5 × α6 × α7 × α8 × α9 × α10 × α11 × γ0) (fun v => I v.2.1 v.2.2.1 v.2.2.2.1 v.2.2.2.2.1 v.2.2.2.2.2.1 v.2.2.2.2.2.2.1 v.2.2.2.2.2.2.2.1 v.2.2.2.2.2.2.2.2.1 v.2.2.2.2.2.2.2.2.2.1 v.2.2.2.2.2.2.2.2.2.2.1 v.2.2.2.2.2.2.2.2.2.2.2.1 v.2.2.2.2.2.2.2.2.2.2.2.2.1 v.2.2.2.2.2.2.2.2.2.2.2.2.2) (fun v => S v.2.1 v.2.2.1 v.2.2.2.1 v.2.2.2.2.1 v.2.2.2.2.2.1 v.2.2.2.2.2.2.1 v.2.2.2.2.2.2.2.1 v.2.2.2.2.2.2.2.2.1 v.2.2.2.2.2.2.2.2.2.1 v.2.2.2.2.2.2.2.2.2.2.1 v.2.2.2.2.2.2.2.2.2.2.2.1 v.2.2.2.2.2.2.2.2.2.2.2.2.1 v.2.2.2.2.2.2.2.2.2.2.2.2.2) (fun v => L v.1 v.2.1 v.2.2.1 v.2.2.2.1 v.2.2.2.2.1 v.2.2.2.2.2.1 v.2.2.2.2.2.2.1 v.2.2.2.2.2.2.2.1 v.2.2.2.2.2.2.2.2.1 v.2.2.2.2.2.2.2.2.2.1 v.2.2.2.2.2.2.2.2.2.2.1 v.2.2.2.2.2.2.2.2.2.2.2.1 v.2.2.2.2.2.2.2.2.2.2.2.2.1 = some r) (fun v => v.1) (m0, b0, b1, b2, b3, b4, b5, b6, b7, b8, b9, b10, b11, c0) h start (fun v hv => ?_)
  obtain ⟨m, a0, a1, a2, a3, a4, a5, a6, a7, a8, a9, a10, a11, g0⟩ := v
  dsimp only at hv ⊢
  cases m with
  | zero => rw [hz] at hv; cases hv
  | succ m =>
    rw [hs] at hv
    refine awp_mono (round (L m) a0 a1 a2 a3 a4 a5 a6 a7 a8 a9 a10 a11 g0 hv) ?_
    intro e af' σ' h'
    cases e with
    | normal =>
      obtain ⟨a0, a1, a2, a3, a4, a5, a6, a7, a8, a9, a10, a11, g0, h3, h4⟩ := h'
      exact ⟨(m, a0, a1, a2, a3, a4, a5, a6, a7, a8, a9, a10, a11, g0), h3, Nat.lt_succ_self m, h4⟩
    | _ => exact h'
end
end Go.Proofs.Ytkplmgdmkfgjhaa
