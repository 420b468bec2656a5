/- The disk: what it is made of; its methods. -/
import Derived.Test.YtkplmgdmkfgjhaaQb3
import Derived.Shelf.SlMaps.Clone
namespace Go.Proofs.Ytkplmgdmkfgjhaa
open Go.RowKit Go.Maps
abbrev DkZ := Value × List UInt8 × Int
abbrev z0 : DkZ := (.slice none 0 0, [], 0)
/-- The variable of a disk. -/
abbrev dB (b nb db : Nat) (pv : Value) (D : Dk) : Item := boxI 81 b [.exact (.int .i64 D.cap), .exact (.map (some nb)), .exact (.map (some db)), .exact pv, .exact (.int .i64 D.wr), .exact (.int .i64 D.fl), .exact (.bool D.dn)]
/-- A directory. -/
abbrev dM (hb : List Nat) (nb : Nat) (l : List (List UInt8 × Int)) : Item := mapI (fun _ => True) (fun k : List UInt8 => .string (bs k)) (fun x : Int => refA hb x) nb l
abbrev opE (hb : List Nat) (x : List UInt8 × List UInt8 × Int) : List AV := [.exact (.string (bs x.1)), .exact (.string (bs x.2.1)), refA hb x.2.2]
/-- The pending operations. -/
abbrev dP (hb : List Nat) (pv : Value) (l : List (List UInt8 × List UInt8 × Int)) : Item := vecT Try.prog 79 3 (opE hb) pv l
abbrev fEnc (z : DkZ) : List AV := [.exact z.1, .exact (.int .i64 z.2.2)]
/-- The files. -/
abbrev dH (hb : List Nat) (Z : List DkZ) : Item := hpI 87 fEnc hb Z
abbrev dV (z : DkZ) : Item := vecT Try.prog 32 1 cU8 z.1 z.2.1
/-- Their bytes. -/
abbrev dVs (Z : List DkZ) : Item := allI (Z.map dV)
theorem oc_opE (hb : List Nat) (x : List UInt8 × List UInt8 × Int) : OneC (opE hb x) := OneC.cons (fun M w u h => by rw [show u = _ from h]; rfl) (OneC.cons (fun M w u h => by rw [show u = _ from h]; rfl) (OneC.ref OneC.nil))
theorem vec_isSl {M : BSet} {w : World} {P : Program} {t : TypeId} {n : Nat} {enc : UInt8 → List AV} {v : Value} {xs : List UInt8} (h : (vecT P t n enc v xs).p M w) : ∃ A c, v = .slice A xs.length c := by
  obtain ⟨vs, hown, _⟩ := h
  rcases hown.2 with ⟨rfl, h0⟩ | ⟨g, cap, cur, rfl, _⟩
  · exact ⟨none, 0, by rw [h0]⟩
  · exact ⟨_, _, rfl⟩
theorem gi_mem {α : Type} [Inhabited α] {l : List α} {i : Int} (h0 : 0 ≤ i) (h1 : i < (l.length : Int)) : gi l i ∈ l := by
  obtain ⟨k, rfl⟩ : ∃ k : Nat, i = (k : Int) := ⟨i.toNat, by omega⟩
  rw [gi_nat (by omega)]; exact List.getElem_mem _
/-- The number of bytes of a file. -/
theorem op_len_dVs {P : Program} {af : AF} {σ : Items} {d : Option Tmp} {ty t e : TypeId} {pos : String} {after : Array Edge} {g : Option (Nat × Bool)} {x : Operand} {Z : List DkZ} {i : Int} {K : AF → Prop} (hi : allI (Z.map (fun z : DkZ => vecT P e 1 cU8 z.1 z.2.1)) ∈ σ) (hB : isSliceB P t = true) (h0 : 0 ≤ i) (h1 : i < (Z.length : Int)) (hx : af.ev x = .exact (gi Z i).1) (hk : K (af.put d (.exact (.int .i64 ((gi Z i).2.1.length : Int))))) :
    opR P ⟨d, .call { callee := .builtin .len, args := #[x], argTypes := #[t] }, ty, pos, after, g⟩ af σ K := by
  refine ⟨_, fun F w ev hg h => ?_, hk⟩
  have e1 := opnd h (x := x) (by simp [Op.operands, Call.operands]) hx
  obtain ⟨e, hu⟩ := isSliceB_spec hB
  obtain ⟨A, c, hv⟩ := vec_isSl (hg.items _ hi _ (List.mem_map_of_mem (gi_mem h0 h1)))
  rw [hv] at e1
  simp [execOp, resolve, invoke, builtin, Builtin.len_, e1, run_under hu, goInt, go_sem, UponQ]
  exact ⟨Keeps.refl _ _, rfl⟩
theorem gi_map {α β : Type} [Inhabited α] [Inhabited β] {f : α → β} {l : List α} {i : Int} (h0 : 0 ≤ i) (h1 : i < (l.length : Int)) : gi (l.map f) i = f (gi l i) := by
  obtain ⟨k, rfl⟩ : ∃ k : Nat, i = (k : Int) := ⟨i.toNat, by omega⟩
  rw [gi_nat (by rw [List.length_map]; omega), gi_nat (by omega), List.getElem_map]
theorem dk_letop (a : AV) : AV.le a .top := fun _ _ _ _ => trivial
/-- All of a disk. -/
abbrev dIts (hb : List Nat) (b nb db : Nat) (pv : Value) (D : Dk) (Z : List DkZ) : Items := [dB b nb db pv D, dM hb nb D.names, dM hb db D.dur, dP hb pv D.pend, dH hb Z, dVs Z]
theorem dV_set {Z : List DkZ} {i : Int} (h0 : 0 ≤ i) (h1 : i < (Z.length : Int)) (x : Int) : (Z.set i.toNat ((gi Z i).1, (gi Z i).2.1, x)).map dV = Z.map dV := by
  obtain ⟨k, rfl⟩ : ∃ k : Nat, i = (k : Int) := ⟨i.toNat, by omega⟩
  have hk : k < Z.length := by omega
  rw [List.map_set, gi_nat hk, Int.toNat_natCast]
  show (Z.map dV).set k (dV Z[k]) = _
  rw [← List.getElem_map (f := dV) (h := by rw [List.length_map]; exact hk), List.set_getElem_self]
theorem Bor.dVs {P : Program} {e : TypeId} {σ : Items} {Z : List DkZ} {i : Int} (hm : allI (Z.map (fun z : DkZ => vecT P e 1 cU8 z.1 z.2.1)) ∈ σ) (h0 : 0 ≤ i) (h1 : i < (Z.length : Int)) : Bor σ (.exact (gi Z i).1) (.row 1 cU8 (gi Z i).2.1) := fun F w u hg hx => by
  obtain rfl : u = (gi Z i).1 := hx
  have hz := List.mem_map_of_mem (f := fun z : DkZ => vecT P e 1 cU8 z.1 z.2.1) (gi_mem h0 h1)
  refine vec_row (fun k hk hF => ?_) (fun _ => rfl) (hg.items _ hm _ hz) (fun k _ hF => .inl hF)
  exact (hg.own k (List.mem_flatMap.2 ⟨_, hm, List.mem_flatMap.2 ⟨_, hz, by simp [vecT, vecI, hk]⟩⟩)).2 hF
/-- A call that makes a row of its own from what is lent. -/
theorem op_ownB {α : Type} {P : Program} {af : AF} {σ : Items} {d : Option Tmp} {ty : TypeId} {pos : String} {after : Array Edge} {g : Option (Nat × Bool)} {f : FuncId} {fn : Func} {args : List AV} {t : TypeId} {n : Nat} {enc : α → List AV} {ys : List α} {xs : List Operand} {ats : Array TypeId} {K : AF → Items → Prop}
    (hp : Fun P f args [] (fun a s => ∃ z, a = .exact z ∧ s = [vecT P t n enc z ys])) (hf : P.funcs[f]? = some fn) (hb : (fn.body.isNone || fn.name == "runtime.NumGoroutine") = false) (hmi : ∀ a ∈ ys.flatMap enc, MI a)
    (hx : Bors σ (xs.map af.ev) args) (hk : ∀ z, K (af.put d (.exact z)) (vecT P t n enc z ys :: σ)) : opB P ⟨d, .call { callee := .value (.func f), args := xs.toArray, argTypes := ats }, ty, pos, after, g⟩ af σ K := by
  refine ⟨fun a s => ∃ z, a = .exact z ∧ s = vecT P t n enc z ys :: σ, fun F w ev hg h => ?_, fun av s ⟨z, e1, e2⟩ => by subst e1 e2; exact hk z⟩
  have he' : ev (.func f) = .func (.func f) #[] #[] := h (.func f) (by simp [Op.operands, Call.operands])
  rw [run_call hf hb he']
  have h0 : Fit (both F (Items.own σ)) w (xs.map af.ev) (xs.map ev) := fit_args (args := xs.map af.ev) h (by
    clear hx h
    induction xs with
    | nil => trivial
    | cons x xs ih => exact ⟨AV.le_refl _, ih⟩)
  have hown0 : ∀ k, ¬ Items.own ([] : Items) k := fun k hk => by simp [Items.own] at hk
  refine (hp F w _ ⟨hg.fr, fun k hk => (hown0 k hk).elim, List.nodup_nil, fun it hi => by cases hi⟩ ((hx.fit hg h0).keep (Keeps.refl _ _) (fun k _ hk => hk.elim id (fun h => (hown0 k h).elim)))).mono ?_
  rintro e w' ⟨v, he, av, σ', ⟨z, rfl, rfl⟩, hg2, hk2, hn, hpv⟩
  have hv1 : ∀ k, k ∈ (vecT P t n enc z ys).own → k < w'.heap.size ∧ ¬ F k := fun k h => hg2.own k (own_cons.2 (.inl h))
  have hv2 : ∀ k, k ∈ (vecT P t n enc z ys).own → ¬ k < w.heap.size := fun k h hlt => hown0 k (hn k (own_cons.2 (.inl h)) hlt)
  have hit := hg2.items (vecT P t n enc z ys) List.mem_cons_self
  have hnd := hg2.nodup
  rw [List.flatMap_cons, List.nodup_append] at hnd
  refine ⟨v, he, .exact z, vecT P t n enc z ys :: σ, ⟨z, rfl, rfl⟩, ⟨fun k hk => Nat.lt_of_lt_of_le (hg.fr k hk) hk2.size, fun k hk => ?_, ?_, fun it hi => ?_⟩, hk2.mono (fun k _ h => (hown0 k h).elim), fun k h hlt => ?_, hpv⟩
  · rcases own_cons.1 hk with hk | hk
    · exact hv1 k hk
    · exact ⟨Nat.lt_of_lt_of_le (hg.own k hk).1 hk2.size, (hg.own k hk).2⟩
  · rw [List.flatMap_cons, List.nodup_append]
    refine ⟨hnd.1, hg.nodup, fun a ha b hb hab => ?_⟩
    subst hab
    exact hv2 a ha (hg.own a hb).1
  · rcases List.mem_cons.1 hi with rfl | hi
    · obtain ⟨us, g1, g2⟩ := hit
      exact ⟨us, g1, MI.fit hmi g2⟩
    · refine it.keep (hk2.mono (fun k _ h => (hown0 k h).elim)) (fun k hlt h => ?_) (hg.items it hi)
      rcases h with h | h
      · exact .inl h
      · rcases own_cons.1 h with h | h
        · exact absurd hlt (hv2 k h)
        · exact .inr h
  · rcases own_cons.1 h with h | h
    · exact absurd hlt (hv2 k h)
    · exact h
theorem mi_cU8 (ys : List UInt8) : ∀ a ∈ ys.flatMap cU8, MI a := fun a ha => by
  obtain ⟨y, _, hy⟩ := List.mem_flatMap.1 ha
  rw [List.mem_singleton.1 hy]; exact MI.exact
theorem dk_ocU8 (x : UInt8) : OneC (cU8 x) := OneC.cons (fun M w u h => by rw [show u = _ from h]; rfl) OneC.nil
theorem dk_half {n : Nat} (h : n ≤ 137438953472) : IntKind.i64.wrap (Int.tdiv (n : Int) 2) = ((n / 2 : Nat) : Int) := by
  have h1 : Int.tdiv (n : Int) 2 = ((n / 2 : Nat) : Int) := by rw [Int.tdiv_eq_ediv_of_nonneg (by omega)]; omega
  rw [h1]
  exact i64_id (by omega)
theorem dV_nil (M : BSet) (w : World) : (dV z0).p M w := ⟨[], ⟨rfl, .inl ⟨rfl, rfl⟩⟩, trivial⟩
theorem dk_gil {Z : List DkZ} {z : DkZ} : gi (Z ++ [z]) (Z.length : Int) = z := by
  rw [gi_nat (by simp)]; simp
theorem dk_newf {Z : List DkZ} {v : Value} {y : List UInt8} : Z.map (·.2) ++ [(y, (0 : Int))] = ((Z ++ [z0]).set ((Z.length : Int)).toNat (v, (gi (Z ++ [z0]) (Z.length : Int)).2.1 ++ y, (gi (Z ++ [z0]) (Z.length : Int)).2.2)).map (·.2) := by
  rw [dk_gil, Int.toNat_natCast, List.set_append]
  simp
theorem dk_pfn {s : List UInt8} {i : Int} {l : List (List UInt8 × Int)} (h : i ≠ -1) : dkPf ([], s, i) l = putL l s i := by
  unfold dkPf; simp [h]
theorem SubU.takeG {α : Type} [Inhabited α] {af : AF} {σ : Items} {f : α → Item} {l : List α} {i : Int} (h0 : 0 ≤ i) (h1 : i < (l.length : Int)) : SubU af (allI (l.map f) :: σ) af (f (gi l i) :: allI ((l.eraseIdx i.toNat).map f) :: σ) := by
  obtain ⟨k, rfl⟩ : ∃ k : Nat, i = (k : Int) := ⟨i.toNat, by omega⟩
  rw [gi_nat (by omega), Int.toNat_natCast]; exact SubU.take (by omega)
theorem SubU.putG {α : Type} {af : AF} {σ : Items} {f : α → Item} {l : List α} {i : Int} {x : α} (h0 : 0 ≤ i) (h1 : i < (l.length : Int)) : SubU af (f x :: allI ((l.eraseIdx i.toNat).map f) :: σ) af (allI ((l.set i.toNat x).map f) :: σ) := SubU.put (by omega)
theorem dV_own : (dV z0).own = [] := rfl
theorem SubU.newVs {af : AF} {σ : Items} : SubU af σ af (dVs [] :: σ) := SubU.repack (.refl _) (fun M w h it hi => by
  rcases List.mem_cons.1 hi with rfl | hi
  · intro it hi; cases hi
  · exact h it hi)
def laymc_ren : Go.Shelf.Ren := ⟨fun | 5 => 73 | 7 => 98 | n => n, fun | 3 => 88 | 4 => 4 | 20 => 20 | 23 => 78 | 25 => 9 | n => n, fun n => n⟩
theorem laymc : Go.Proofs.SlLaysW.n5 Try.prog laymc_ren where
  mixed := by kernel_rfl
  f5 := ⟨Try.f73.name, by kernel_rfl, Try.func73.trans (congrArg some (by kernel_rfl))⟩
  f7 := Try.func98.trans (congrArg some (by kernel_rfl))
  t4 := Try.underlying4
  a4 := Try.isAgg4
  z4 := Try.sizeOf4
  v4 := Try.zeroValue4
  t20 := Try.underlying20
  a20 := Try.isAgg20
  z20 := Try.sizeOf20
  v20 := Try.zeroValue20
  t23 := Try.underlying78
  a23 := Try.isAgg78
  z23 := Try.sizeOf78
  v23 := Try.zeroValue78
theorem dk_clone {hb : List Nat} {nb : Nat} {l : List (List UInt8 × Int)} : Fun Try.prog 73 [.exact (.map (some nb))] [dM hb nb l] (fun a s => ∃ nb', a = .exact (.map (some nb')) ∧ s = [dM hb nb' l, dM hb nb l]) := by
  intro F w vs hg hfit
  match vs, hfit with
  | [v], ⟨e1, _⟩ =>
  have e1 : v = .map (some nb) := e1
  subst e1
  obtain ⟨es, clock, ⟨h1, h2, h3⟩, h4, h5⟩ := hg.items (dM hb nb l) List.mem_cons_self
  refine (AnyW.maps_Clone laymc nb es clock w h1).mono fun e w' ⟨he, hw⟩ => ?_
  subst he hw
  refine ⟨_, rfl, ?_⟩
  have hk0 : Keeps noB w (w.alloc (.map es clock)) := ⟨rfl, rfl, rfl, Nat.le_refl _, by simp, fun k hlt _ => heap_alloc_old w _ hlt⟩
  exact out_new (it := dM hb w.heap.size l) hg rfl (fun M hM => ⟨es, clock, ⟨(MapKept.heap_alloc w _).1, h2, h3⟩, h4.keep (hk0.mono (fun _ _ h => h.elim)) hM, h5⟩) (fun M => rfl) ⟨_, rfl, rfl⟩
attribute [local irreducible] AV.exact AV.top AV.row AV.ptr AV.agg AV.tup AV.eptr AV.fn AV.nilq AV.nilqn opA opB opM opR Quiet Loud Reads wpG awp den Sub SubU Pure Fun vecI vecT boxI hpI mapI allI refA hptA CellsAll CellsOf OneC LEs LEss
set_option maxRecDepth 100000
set_option maxHeartbeats 4000000 in
theorem dk_write {b nb db : Nat} {pv : Value} (D : Dk) : Fun Try.prog 56 [pA b 0] [dB b nb db pv D] (fun a s => a = .exact (.bool (!(dkWr D).dn)) ∧ s = [dB b nb db pv (dkWr D)]) := by
  refine fun_of_awp Try.func56 rfl Try.ntmps56 (by simp) rfl (res1 rfl) fun E hE => k_end ?_
  refine k_seq ?_
  refine k_reg .free hmixP (by kernel_rfl) ?_
  refine G_q rfl (op_assign (av := .exact (.bool false)) rfl ?_)
  refine G_nil ?_
  refine kC_normal ?_
  refine k_seq ?_
  refine k_reg .free hmixP (by kernel_rfl) ?_
  refine G_q rfl (op_move (av := pA b 0) rfl ?_)
  refine G_q rfl (op_nilCheck rfl ?_)
  refine G_q rfl (op_fieldAddr (o := 4) (by kernel_rfl) rfl ?_)
  refine G_r rfl (op_load_box1 (a := .exact (.int .i64 D.wr)) (by kernel_rfl) rfl rfl ?_)
  refine G_q rfl (op_add rfl rfl rfl ?_)
  refine G_q rfl (op_nilCheck rfl ?_)
  refine G_q rfl (op_fieldAddr (o := 4) (by kernel_rfl) rfl ?_)
  refine G_l rfl (op_store_box (c' := [.exact (.int .i64 (i64 (D.wr + 1)))]) (c3 := [.exact (.int .i64 D.cap), .exact (.map (some nb)), .exact (.map (some db)), .exact pv, .exact (.int .i64 (i64 (D.wr + 1))), .exact (.int .i64 D.fl), .exact (.bool D.dn)]) rfl rfl CellsOf.int (LEs.cons (AV.le_eq rfl) LEs.nil) (OneC.int OneC.nil) (by kernel_rfl) (Nat.le_of_ble_eq_true rfl) rfl ?_)
  refine G_nil ?_
  refine kC_normal ?_
  refine k_seq ?_
  refine k_seq ?_
  refine k_reg .free hmixP (by kernel_rfl) ?_
  refine G_q rfl (op_move (av := pA b 0) rfl ?_)
  refine G_q rfl (op_nilCheck rfl ?_)
  refine G_q rfl (op_fieldAddr (o := 5) (by kernel_rfl) rfl ?_)
  refine G_r rfl (op_load_box1 (a := .exact (.int .i64 D.fl)) (by kernel_rfl) rfl rfl ?_)
  refine G_q rfl (op_gtr rfl rfl ?_)
  refine G_nil ?_
  refine kC_normal ?_
  refine k_cond_d (p := 0 < D.fl) rfl (fun hc1 => ?_) (fun hc1 => ?_)
  · refine k_seq ?_
    refine k_reg .free hmixP (by kernel_rfl) ?_
    refine G_q rfl (op_move (av := pA b 0) rfl ?_)
    refine G_q rfl (op_nilCheck rfl ?_)
    refine G_q rfl (op_fieldAddr (o := 5) (by kernel_rfl) rfl ?_)
    refine G_r rfl (op_load_box1 (a := .exact (.int .i64 D.fl)) (by kernel_rfl) rfl rfl ?_)
    refine G_q rfl (op_sub rfl rfl rfl ?_)
    refine G_q rfl (op_nilCheck rfl ?_)
    refine G_q rfl (op_fieldAddr (o := 5) (by kernel_rfl) rfl ?_)
    refine G_l rfl (op_store_box (c' := [.exact (.int .i64 (i64 (D.fl - 1)))]) (c3 := [.exact (.int .i64 D.cap), .exact (.map (some nb)), .exact (.map (some db)), .exact pv, .exact (.int .i64 (i64 (D.wr + 1))), .exact (.int .i64 (i64 (D.fl - 1))), .exact (.bool D.dn)]) rfl rfl CellsOf.int (LEs.cons (AV.le_eq rfl) LEs.nil) (OneC.int OneC.nil) (by kernel_rfl) (Nat.le_of_ble_eq_true rfl) rfl ?_)
    refine G_nil ?_
    refine kC_normal ?_
    refine k_reg .free hmixP (by kernel_rfl) ?_
    refine G_q rfl (op_move (av := pA b 0) rfl ?_)
    refine G_q rfl (op_move (av := pA b 0) rfl ?_)
    refine G_q rfl (op_nilCheck rfl ?_)
    refine G_q rfl (op_fieldAddr (o := 5) (by kernel_rfl) rfl ?_)
    refine G_r rfl (op_load_box1 (a := .exact (.int .i64 (i64 (D.fl - 1)))) (by kernel_rfl) rfl rfl ?_)
    refine G_q rfl (op_eql rfl rfl ?_)
    refine G_q rfl (op_nilCheck rfl ?_)
    refine G_q rfl (op_fieldAddr (o := 6) (by kernel_rfl) rfl ?_)
    refine G_l rfl (op_store_box (c' := [.exact (.bool (decide ((i64 (D.fl - 1)) = 0)))]) (c3 := [.exact (.int .i64 D.cap), .exact (.map (some nb)), .exact (.map (some db)), .exact pv, .exact (.int .i64 (i64 (D.wr + 1))), .exact (.int .i64 (i64 (D.fl - 1))), .exact (.bool (decide ((i64 (D.fl - 1)) = 0)))]) rfl rfl CellsOf.bool (LEs.cons (AV.le_eq rfl) LEs.nil) (OneC.bool OneC.nil) (by kernel_rfl) (Nat.le_of_ble_eq_true rfl) rfl ?_)
    refine G_nil ?_
    refine kC_normal ?_
    refine k_seq ?_
    refine k_reg .free hmixP (by kernel_rfl) ?_
    refine G_q rfl (op_move (av := pA b 0) rfl ?_)
    refine G_q rfl (op_nilCheck rfl ?_)
    refine G_q rfl (op_fieldAddr (o := 6) (by kernel_rfl) rfl ?_)
    refine G_r rfl (op_load_box1 (a := .exact (.bool (decide ((i64 (D.fl - 1)) = 0)))) (by kernel_rfl) rfl rfl ?_)
    refine G_q rfl (op_not_d rfl ?_)
    refine G_q rfl (op_assign (av := .exact (.bool (decide (¬ ((i64 (D.fl - 1)) = 0))))) rfl ?_)
    refine G_nil ?_
    refine kC_normal ?_
    refine k_ret ?_
    refine kP_any (endN (af' := (AF.put AF0 (some 2) (.exact (.bool (decide (¬ ((i64 (D.fl - 1)) = 0))))))) (σ' := [boxI 81 b [.exact (.int .i64 D.cap), .exact (.map (some nb)), .exact (.map (some db)), .exact pv, .exact (.int .i64 (i64 (D.wr + 1))), .exact (.int .i64 (i64 (D.fl - 1))), .exact (.bool (decide ((i64 (D.fl - 1)) = 0)))]]) _ rfl (Sub.of_le (AF.le_put (AV.le_eq rfl) (AF.le_top _))) ?_)
    exact ⟨by simp [dkWr, *]; rfl, by simp [dkWr, *]⟩
  · refine k_skip ?_
    refine kC_normal ?_
    refine k_seq ?_
    refine k_reg .free hmixP (by kernel_rfl) ?_
    refine G_q rfl (op_move (av := pA b 0) rfl ?_)
    refine G_q rfl (op_nilCheck rfl ?_)
    refine G_q rfl (op_fieldAddr (o := 6) (by kernel_rfl) rfl ?_)
    refine G_r rfl (op_load_box1 (a := .exact (.bool D.dn)) (by kernel_rfl) rfl rfl ?_)
    refine G_q rfl (op_not rfl ?_)
    refine G_q rfl (op_assign (av := .exact (.bool !D.dn)) rfl ?_)
    refine G_nil ?_
    refine kC_normal ?_
    refine k_ret ?_
    refine kP_any (endN (af' := (AF.put AF0 (some 2) (.exact (.bool !D.dn)))) (σ' := [boxI 81 b [.exact (.int .i64 D.cap), .exact (.map (some nb)), .exact (.map (some db)), .exact pv, .exact (.int .i64 (i64 (D.wr + 1))), .exact (.int .i64 D.fl), .exact (.bool D.dn)]]) _ rfl (Sub.of_le (AF.le_put (AV.le_eq rfl) (AF.le_top _))) ?_)
    exact ⟨by simp [dkWr, *]; rfl, by simp [dkWr, *]⟩
set_option maxHeartbeats 4000000 in
theorem dk_perform {hb : List Nat} {nb : Nat} (f s : List UInt8) (i : Int) (l : List (List UInt8 × Int)) : Fun Try.prog 71 [.agg [.exact (.string (bs f)), .exact (.string (bs s)), refA hb i], .exact (.map (some nb))] [dM hb nb l] (fun a σ => a = .tup [] ∧ σ = [dM hb nb (dkPf (f, s, i) l)]) := by
  refine fun_of_awp Try.func71 rfl Try.ntmps71 (by simp) rfl (res0 rfl) fun E hE => k_end ?_
  refine k_seq ?_
  refine k_reg .free hmixP (by kernel_rfl) ?_
  refine G_q rfl (op_box (c := [.exact (.string (bs f)), .exact (.string (bs s)), refA hb i]) rfl CellsOf.agg ?_)
  refine G_nil ?_
  refine kC_normal ?_
  refine k_seq ?_
  refine k_seq ?_
  refine k_reg .free hmixP (by kernel_rfl) ?_
  refine G_q rfl (op_fieldAddr_ptr (o := 0) (c' := [.exact (.string (bs f)), .exact (.string (bs s)), refA hb i]) (by kernel_rfl) rfl rfl ?_)
  refine G_q rfl (op_load1p (a := .exact (.string (bs f))) (by kernel_rfl) rfl rfl ?_)
  refine G_q rfl (op_neqS rfl rfl ?_)
  refine G_nil ?_
  refine kC_normal ?_
  refine k_cond_d (p := ¬ f = []) rfl (fun hc1 => ?_) (fun hc1 => ?_)
  · refine k_reg .free hmixP (by kernel_rfl) ?_
    refine G_q rfl (op_move (av := .exact (.map (some nb))) rfl ?_)
    refine G_q rfl (op_fieldAddr_ptr (o := 0) (c' := [.exact (.string (bs f)), .exact (.string (bs s)), refA hb i]) (by kernel_rfl) rfl rfl ?_)
    refine G_q rfl (op_load1p (a := .exact (.string (bs f))) (by kernel_rfl) rfl rfl ?_)
    refine G_l rfl (op_mdel (keyOk_str Try.underlying9) (fun _ _ _ => trivial) Try.underlying78 rfl (keyAV_str rfl) ?_)
    refine G_nil ?_
    refine kC_normal ?_
    refine k_seq ?_
    refine k_reg .free hmixP (by kernel_rfl) ?_
    refine G_q rfl (op_fieldAddr_ptr (o := 2) (c' := [refA hb i]) (by kernel_rfl) rfl rfl ?_)
    refine G_q rfl (op_load1p (a := refA hb i) (by kernel_rfl) rfl rfl ?_)
    refine G_q rfl (op_eqnil_ref (t := 87) (by kernel_rfl) (by kernel_rfl) rfl rfl ?_)
    refine G_nil ?_
    refine kC_normal ?_
    refine k_cond_d (p := i = -1) rfl (fun hc2 => ?_) (fun hc2 => ?_)
    · refine k_reg .free hmixP (by kernel_rfl) ?_
      refine G_q rfl (op_move (av := .exact (.map (some nb))) rfl ?_)
      refine G_q rfl (op_fieldAddr_ptr (o := 1) (c' := [.exact (.string (bs s)), refA hb i]) (by kernel_rfl) rfl rfl ?_)
      refine G_q rfl (op_load1p (a := .exact (.string (bs s))) (by kernel_rfl) rfl rfl ?_)
      refine G_l rfl (op_mdel (keyOk_str Try.underlying9) (fun _ _ _ => trivial) Try.underlying78 rfl (keyAV_str rfl) ?_)
      refine G_nil ?_
      refine kP_any (endNn (af' := AF0) (σ' := [dM hb nb (delL (delL l f) s)]) _ rfl (Sub.of_le (AF.le_top _)) ?_)
      exact ⟨rfl, by first | (simp [dkPf, *]; done) | (simp_all [dkPf]; done)⟩
    · refine k_reg .free hmixP (by kernel_rfl) ?_
      refine G_q rfl (op_move (av := .exact (.map (some nb))) rfl ?_)
      refine G_q rfl (op_fieldAddr_ptr (o := 1) (c' := [.exact (.string (bs s)), refA hb i]) (by kernel_rfl) rfl rfl ?_)
      refine G_q rfl (op_load1p (a := .exact (.string (bs s))) (by kernel_rfl) rfl rfl ?_)
      refine G_q rfl (op_fieldAddr_ptr (o := 2) (c' := [refA hb i]) (by kernel_rfl) rfl rfl ?_)
      refine G_q rfl (op_load1p (a := refA hb i) (by kernel_rfl) rfl rfl ?_)
      refine G_l rfl (op_mput (z := i) (keyOk_str Try.underlying9) (fun _ _ _ => trivial) Try.underlying78 rfl (keyAV_str rfl) (AV.le_eq rfl) ?_)
      refine G_nil ?_
      refine kP_any (endNn (af' := AF0) (σ' := [dM hb nb (putL (delL l f) s i)]) _ rfl (Sub.of_le (AF.le_top _)) ?_)
      exact ⟨rfl, by first | (simp [dkPf, *]; done) | (simp_all [dkPf]; done)⟩
  · refine k_skip ?_
    refine kC_normal ?_
    refine k_seq ?_
    refine k_reg .free hmixP (by kernel_rfl) ?_
    refine G_q rfl (op_fieldAddr_ptr (o := 2) (c' := [refA hb i]) (by kernel_rfl) rfl rfl ?_)
    refine G_q rfl (op_load1p (a := refA hb i) (by kernel_rfl) rfl rfl ?_)
    refine G_q rfl (op_eqnil_ref (t := 87) (by kernel_rfl) (by kernel_rfl) rfl rfl ?_)
    refine G_nil ?_
    refine kC_normal ?_
    refine k_cond_d (p := i = -1) rfl (fun hc3 => ?_) (fun hc3 => ?_)
    · refine k_reg .free hmixP (by kernel_rfl) ?_
      refine G_q rfl (op_move (av := .exact (.map (some nb))) rfl ?_)
      refine G_q rfl (op_fieldAddr_ptr (o := 1) (c' := [.exact (.string (bs s)), refA hb i]) (by kernel_rfl) rfl rfl ?_)
      refine G_q rfl (op_load1p (a := .exact (.string (bs s))) (by kernel_rfl) rfl rfl ?_)
      refine G_l rfl (op_mdel (keyOk_str Try.underlying9) (fun _ _ _ => trivial) Try.underlying78 rfl (keyAV_str rfl) ?_)
      refine G_nil ?_
      refine kP_any (endNn (af' := AF0) (σ' := [dM hb nb (delL l s)]) _ rfl (Sub.of_le (AF.le_top _)) ?_)
      exact ⟨rfl, by first | (simp [dkPf, *]; done) | (simp_all [dkPf]; done)⟩
    · refine k_reg .free hmixP (by kernel_rfl) ?_
      refine G_q rfl (op_move (av := .exact (.map (some nb))) rfl ?_)
      refine G_q rfl (op_fieldAddr_ptr (o := 1) (c' := [.exact (.string (bs s)), refA hb i]) (by kernel_rfl) rfl rfl ?_)
      refine G_q rfl (op_load1p (a := .exact (.string (bs s))) (by kernel_rfl) rfl rfl ?_)
      refine G_q rfl (op_fieldAddr_ptr (o := 2) (c' := [refA hb i]) (by kernel_rfl) rfl rfl ?_)
      refine G_q rfl (op_load1p (a := refA hb i) (by kernel_rfl) rfl rfl ?_)
      refine G_l rfl (op_mput (z := i) (keyOk_str Try.underlying9) (fun _ _ _ => trivial) Try.underlying78 rfl (keyAV_str rfl) (AV.le_eq rfl) ?_)
      refine G_nil ?_
      refine kP_any (endNn (af' := AF0) (σ' := [dM hb nb (putL l s i)]) _ rfl (Sub.of_le (AF.le_top _)) ?_)
      exact ⟨rfl, by first | (simp [dkPf, *]; done) | (simp_all [dkPf]; done)⟩
set_option maxHeartbeats 4000000 in
theorem dk_change {hb : List Nat} {b nb db : Nat} {pv : Value} (f s : List UInt8) (i : Int) (D : Dk) (hp : D.pend.length < 137438953472) : Fun Try.prog 57 [pA b 0, .agg [.exact (.string (bs f)), .exact (.string (bs s)), refA hb i]] [dB b nb db pv D, dM hb nb D.names, dP hb pv D.pend] (fun a σ => ∃ pv', a = .tup [] ∧ σ = [dB b nb db pv' D, dM hb nb (dkPf (f, s, i) D.names), dP hb pv' (D.pend ++ [(f, s, i)])]) := by
  refine fun_of_awp Try.func57 rfl Try.ntmps57 (by simp) rfl (res0 rfl) fun E hE => k_end ?_
  refine k_seq ?_
  refine k_reg .free hmixP (by kernel_rfl) ?_
  refine G_q rfl (op_box (c := [.exact (.string (bs f)), .exact (.string (bs s)), refA hb i]) rfl CellsOf.agg ?_)
  refine G_nil ?_
  refine kC_normal ?_
  refine k_seq ?_
  refine k_plan [] [(0, 0), (0, 1), (0, 2), (0, 3), (1, 4), (2, 5)] hmixP (by kernel_rfl) ?_
  refine P_q no34_0 rfl (op_loadN rfl (by kernel_rfl) ?_)
  refine P_q no34_0 rfl (op_move (av := pA b 0) rfl ?_)
  refine P_q no34_0 rfl (op_nilCheck rfl ?_)
  refine P_q no34_0 rfl (op_fieldAddr (o := 1) (by kernel_rfl) rfl ?_)
  refine P_r rfl (op_load_box1 (a := .exact (.map (some nb))) (by kernel_rfl) rfl rfl ?_)
  refine P_l rfl (opB_f1 (op_fun_1_0_1 (dk_perform f s i _) Try.func71 (by kernel_rfl) (LEs.cons (AV.le_eq rfl) (LEs.cons (AV.le_eq rfl) LEs.nil)) ?_))
  refine P_nil ?_
  refine kC_normal ?_
  refine k_plan [] [(0, 0), (0, 1), (0, 2), (0, 3), (1, 4), (0, 5), (0, 6), (2, 7), (0, 8), (0, 9), (2, 10)] hmixP (by kernel_rfl) ?_
  refine P_q no34_0 rfl (op_move (av := pA b 0) rfl ?_)
  refine P_q no34_0 rfl (op_move (av := pA b 0) rfl ?_)
  refine P_q no34_0 rfl (op_nilCheck rfl ?_)
  refine P_q no34_0 rfl (op_fieldAddr (o := 3) (by kernel_rfl) rfl ?_)
  refine P_r rfl (opR_f1 (op_load_box1 (a := .exact pv) (by kernel_rfl) rfl rfl ?_))
  refine P_q no34_0 rfl (op_loadN rfl (by kernel_rfl) ?_)
  refine P_q no34_0 rfl (op_litT (n := 3) (enc := opE hb) [(f, s, i)] (CellsAll.cons rfl CellsOf.agg CellsAll.nil) rfl (by kernel_rfl) (LEss.cons (LEs.cons (AV.le_eq rfl) (LEs.cons (AV.le_eq rfl) (LEs.cons (AV.le_eq rfl) LEs.nil))) LEss.nil) ?_)
  refine P_l rfl (opB_f2 (op_appT (by kernel_rfl) rfl rfl (oc_opE hb) (by show _ ≤ 137438953472; simp; omega) (fun pv' => ?_)))
  refine P_q no34_0 rfl (op_nilCheck rfl ?_)
  refine P_q no34_0 rfl (op_fieldAddr (o := 3) (by kernel_rfl) rfl ?_)
  refine P_l rfl (opB_sl (List.Mem.head _) (fun hsl => opB_f2 (op_store_box (c' := [.exact pv']) (c3 := [.exact (.int .i64 D.cap), .exact (.map (some nb)), .exact (.map (some db)), .exact pv', .exact (.int .i64 D.wr), .exact (.int .i64 D.fl), .exact (.bool D.dn)]) rfl rfl (CellsOf.sl hsl) (LEs.cons (AV.le_eq rfl) LEs.nil) (OneC.sl hsl OneC.nil) (by kernel_rfl) (Nat.le_of_ble_eq_true rfl) rfl ?_)))
  refine P_nil ?_
  refine kP_any (endNn (af' := AF0) (σ' := [boxI 81 b [.exact (.int .i64 D.cap), .exact (.map (some nb)), .exact (.map (some db)), .exact pv', .exact (.int .i64 D.wr), .exact (.int .i64 D.fl), .exact (.bool D.dn)], dM hb nb (dkPf (f, s, i) D.names), dP hb pv' (D.pend ++ [(f, s, i)])]) _ rfl (SubU.to (SubU.trans SubU.f1 (SubU.trans SubU.f2 (SubU.trans SubU.f2 (SubU.of_le (AF.le_top _)))))) ?_)
  exact ⟨pv', rfl, rfl⟩
set_option maxHeartbeats 4000000 in
theorem dk_used {hb : List Nat} {b nb db : Nat} {pv : Value} {Z : List DkZ} (D : Dk) (hZ : D.files = Z.map (·.2)) (u : Int) (h : m_dkUsed D = some u) : Fun Try.prog 55 [pA b 0] [dB b nb db pv D, dM hb nb D.names, dH hb Z, dVs Z] (fun a s => a = .exact (.int .i64 u) ∧ s = [dB b nb db pv D, dM hb nb D.names, dH hb Z, dVs Z]) := by
  unfold m_dkUsed at h
  refine fun_of_awp Try.func55 rfl Try.ntmps55 (by simp) rfl (res1 rfl) fun E hE => k_end ?_
  refine k_seq ?_
  refine k_reg .free hmixP (by kernel_rfl) ?_
  refine G_q rfl (op_assign (av := .exact (.int .i64 0)) rfl ?_)
  refine G_nil ?_
  refine kC_normal ?_
  refine k_seq ?_
  refine k_reg .free hmixP (by kernel_rfl) ?_
  refine G_q rfl (op_assign (av := .exact (.int .i64 0)) rfl ?_)
  refine G_nil ?_
  refine kC_normal ?_
  refine k_seq ?_
  refine k_seq ?_
  refine k_reg .free hmixP (by kernel_rfl) ?_
  refine G_q rfl (op_move (av := pA b 0) rfl ?_)
  refine G_q rfl (op_nilCheck rfl ?_)
  refine G_q rfl (op_fieldAddr (o := 1) (by kernel_rfl) rfl ?_)
  refine G_r rfl (op_load_box1 (a := .exact (.map (some nb))) (by kernel_rfl) rfl rfl ?_)
  refine G_l rfl (opB_f1 (op_mrange Try.underlying78 rfl (fun r => ?_)))
  refine G_nil ?_
  refine kC_normal ?_
  refine k_block ?_
  refine k_range1_1 (V := (fun _ => True)) (kv := (fun k : List UInt8 => .string (bs k))) (vv := (fun x : Int => refA hb x)) (b := nb) (r := r) h (fun (n : Int) (_ : Unit) => (AF.put (AF.put AF0 (some 3) (.exact (.int .i64 n))) (some 10) (pA r 0))) (fun (n : Int) (_ : Unit) => [dB b nb db pv D, dH hb Z, dVs Z]) () ?_ (fun n _ left cur Q hK hB => ?_)
  · exact Sub.of_le (AF.le_put (AV.le_eq rfl) (AF.le_put (AV.le_eq rfl) (AF.le_top _)))
  · refine k_seq ?_
    refine k_reg .free hmixP (by kernel_rfl) ?_
    refine G_l rfl (op_mnext rfl (fun hl => ?_) (fun A1 y B1 hl => ?_))
    · replace h := hK hl
      have hu : n = u := Option.some.inj h
      subst hu
      refine G_q rfl (op_extract (av := .exact (.bool false)) rfl rfl ?_)
      refine G_nil ?_
      refine kC_normal ?_
      refine k_seq ?_
      refine k_cond_f rfl ?_
      refine k_exit ?_
      refine kC_exit ?_
      refine kI_exit ?_
      refine kB_exit ?_
      refine kC_normal ?_
      refine awp_sub (SubU.to SubU.mDone) ?_
      refine k_seq ?_
      refine k_reg .free hmixP (by kernel_rfl) ?_
      refine G_q rfl (op_move (av := .exact (.int .i64 n)) rfl ?_)
      refine G_q rfl (op_assign (av := .exact (.int .i64 n)) rfl ?_)
      refine G_nil ?_
      refine kC_normal ?_
      refine k_ret ?_
      exact kP_any (endN (af' := (AF.put AF0 (some 2) (.exact (.int .i64 n)))) (σ' := [dB b nb db pv D, dM hb nb D.names, dH hb Z, dVs Z]) _ rfl (SubU.to (SubU.trans SubU.f1 (SubU.of_le (AF.le_put (AV.le_eq rfl) (AF.le_top _))))) ⟨rfl, rfl⟩)
    · obtain ⟨x', h, hj⟩ := hB A1 y B1 hl
      unfold m_dkUsedR at h
      obtain ⟨n1, h⟩ := need_some h
      rw [hZ, List.length_map] at n1
      have hx := Option.some.inj h
      rw [hZ, gi_map n1.1 n1.2] at hx
      refine G_q rfl (op_extract (av := .exact (.bool true)) rfl rfl ?_)
      refine G_nil ?_
      refine kC_normal ?_
      refine k_seq ?_
      refine k_cond_t rfl ?_
      refine k_skip ?_
      refine kC_normal ?_
      refine k_block ?_
      refine k_seq ?_
      refine k_reg .free hmixP (by kernel_rfl) ?_
      refine G_r rfl (op_mentry rfl ?_)
      refine G_q rfl (op_extract (av := refA hb y.2) rfl rfl ?_)
      refine G_q rfl (op_assign (av := refA hb y.2) rfl ?_)
      refine G_nil ?_
      refine kC_normal ?_
      refine k_reg .free hmixP (by kernel_rfl) ?_
      refine G_q rfl (op_move (av := .exact (.int .i64 n)) rfl ?_)
      refine G_q rfl (op_move (av := refA hb y.2) rfl ?_)
      refine G_q rfl (op_nilC_ref rfl (by omega) ?_)
      refine G_q rfl (op_field_hpt (o := 0) (by kernel_rfl) rfl ?_)
      refine G_r rfl (op_load_hpt (t := 87) (enc := fEnc) (H := Z) (a := .exact (gi Z y.2).1) (List.Mem.tail _ (List.Mem.tail _ (List.Mem.head _))) (by kernel_rfl) rfl rfl ?_)
      refine G_r rfl (op_len_dVs (i := y.2) (Z := Z) (List.Mem.tail _ (List.Mem.tail _ (List.Mem.tail _ (List.Mem.head _)))) (by kernel_rfl) n1.1 n1.2 rfl ?_)
      refine G_q rfl (op_add rfl rfl rfl ?_)
      refine G_q rfl (op_assign (av := .exact (.int .i64 (i64 (n + ((gi Z y.2).2.1.length : Int))))) rfl ?_)
      refine G_nil ?_
      refine kB_normal ?_
      subst hx
      exact hj _ _ () (Sub.of_le (AF.le_put (AV.le_eq rfl) (AF.le_put (AV.le_eq rfl) (AF.le_top _))))
set_option maxHeartbeats 4000000 in
theorem dk_valid (s : List UInt8) : Pure Try.prog 54 [.exact (.string (bs s))] (.exact (.bool (decide (1 ≤ s.length ∧ s.length ≤ 32)))) := by
  refine Pure.ofFun (fun_of_awp Try.func54 rfl Try.ntmps54 (by simp) rfl (res1 rfl) fun E hE => k_end ?_)
  refine k_seq ?_
  refine k_reg .free hmixP (by kernel_rfl) ?_
  refine G_q rfl (op_assign (av := .exact (.bool false)) rfl ?_)
  refine G_nil ?_
  refine kC_normal ?_
  refine k_seq ?_
  refine k_reg .free hmixP (by kernel_rfl) ?_
  refine G_q rfl (op_move (av := .exact (.string (bs s))) rfl ?_)
  refine G_q rfl (op_lenS (by kernel_rfl) rfl ?_)
  refine G_q rfl (op_geq rfl rfl ?_)
  refine G_q rfl (op_move (av := .exact (.bool (decide (1 ≤ (List.length s : Int))))) rfl ?_)
  refine G_split (p := 1 ≤ (List.length s : Int)) 6 rfl (fun hc1 => ?_) (fun hc1 => ?_)
  · refine Gy_q rfl rfl rfl (op_move (av := .exact (.string (bs s))) rfl ?_)
    refine Gy_q rfl rfl rfl (op_lenS (by kernel_rfl) rfl ?_)
    refine Gy_q rfl rfl rfl (op_leq rfl rfl ?_)
    refine G_q rfl (op_pick_t rfl (av := .exact (.bool (decide ((List.length s : Int) ≤ 32)))) rfl ?_)
    refine G_q rfl (op_assign (av := .exact (.bool (decide ((List.length s : Int) ≤ 32)))) rfl ?_)
    refine G_nil ?_
    refine kC_normal ?_
    refine k_ret ?_
    refine kP_any (endN (af' := (AF.put AF0 (some 2) (.exact (.bool (decide ((List.length s : Int) ≤ 32)))))) (σ' := []) _ rfl (Sub.of_le (AF.le_put (AV.le_eq rfl) (AF.le_top _))) ?_)
    refine ⟨?_, rfl⟩
    show AV.exact _ = AV.exact _
    congr 2
    exact decide_eq_decide.2 (by omega)
  · refine G_n rfl rfl ?_
    refine G_n rfl rfl ?_
    refine G_n rfl rfl ?_
    refine G_q rfl (op_pick_f rfl (av := .exact (.bool false)) rfl ?_)
    refine G_q rfl (op_assign (av := .exact (.bool false)) rfl ?_)
    refine G_nil ?_
    refine kC_normal ?_
    refine k_ret ?_
    refine kP_any (endN (af' := (AF.put AF0 (some 2) (.exact (.bool false)))) (σ' := []) _ rfl (Sub.of_le (AF.le_put (AV.le_eq rfl) (AF.le_top _))) ?_)
    refine ⟨?_, rfl⟩
    rw [decide_eq_false (by omega : ¬ (1 ≤ s.length ∧ s.length ≤ 32))]; rfl
theorem dk_ixNil : Pure Try.prog 102 [.exact (.slice none 0 0), .top] (.exact (.int .i64 (-1))) := by
  refine Pure.ofFun (fun_of_awp Try.func102 rfl Try.ntmps102 (by simp) rfl (res1 rfl) fun E hE => k_end ?_)
  refine k_seq ?_
  refine k_reg .free hmixP (by kernel_rfl) ?_
  refine G_q rfl (op_assign (av := .exact (.int .i64 0)) rfl ?_)
  refine G_nil ?_
  refine kC_normal ?_
  refine k_seq ?_
  refine k_seq ?_
  refine k_reg .free hmixP (by kernel_rfl) ?_
  refine G_q rfl (op_move (av := .exact (.slice none 0 0)) rfl ?_)
  refine G_q rfl (op_len_slice (by kernel_rfl) rfl ?_)
  refine G_q rfl (op_move (av := .exact (.int .i64 0)) rfl ?_)
  refine G_nil ?_
  refine kC_normal ?_
  refine k_block ?_
  refine k_loop (fun (_ : Unit) => (AF.put (AF.put AF0 (some 7) (.exact (.int .i64 0))) (some 8) (.exact (.int .i64 0)))) (fun _ => []) (fun _ => True) (fun _ => 0) () trivial (Sub.of_le (AF.le_put (AV.le_eq rfl) (AF.le_put (AV.le_eq rfl) (AF.le_top _)))) (fun _ _ => ?_)
  refine k_seq ?_
  refine k_reg .free hmixP (by kernel_rfl) ?_
  refine G_q rfl (op_lss rfl rfl ?_)
  refine G_nil ?_
  refine kC_normal ?_
  refine k_seq ?_
  refine k_cond_d (p := (0 : Int) < 0) rfl (fun hc => absurd hc (by omega)) (fun _ => ?_)
  refine k_exit ?_
  refine kC_exit ?_
  refine kI_exit ?_
  refine kB_exit ?_
  refine kC_normal ?_
  refine k_seq ?_
  refine k_reg .free hmixP (by kernel_rfl) ?_
  refine G_q rfl (op_assign (av := .exact (.int .i64 (-1))) rfl ?_)
  refine G_nil ?_
  refine kC_normal ?_
  refine k_ret ?_
  exact kP_any (endN (af' := (AF.put AF0 (some 4) (.exact (.int .i64 (-1))))) (σ' := []) _ rfl (Sub.of_le (AF.le_put (AV.le_eq rfl) (AF.le_top _))) ⟨rfl, rfl⟩)
theorem dk_cfNil : Pure Try.prog 85 [.exact (.slice none 0 0), .top] (.exact (.bool false)) := by
  refine Pure.ofFun (fun_of_awp Try.func85 rfl Try.ntmps85 (by simp) rfl (res1 rfl) fun E hE => k_end ?_)
  refine k_seq ?_
  refine k_reg .free hmixP (by kernel_rfl) ?_
  refine G_q rfl (op_assign (av := .exact (.bool false)) rfl ?_)
  refine G_nil ?_
  refine kC_normal ?_
  refine k_seq ?_
  refine k_reg .free hmixP (by kernel_rfl) ?_
  refine G_q rfl (op_move (av := .exact (.slice none 0 0)) rfl ?_)
  refine G_q rfl (op_move (av := .top) rfl ?_)
  refine G_q rfl (op_pure dk_ixNil Try.func102 (by kernel_rfl) (LEs.cons (AV.le_eq rfl) (LEs.cons (AV.le_eq rfl) LEs.nil)) ?_)
  refine G_q rfl (op_geq rfl rfl ?_)
  refine G_q rfl (op_assign (av := .exact (.bool (decide ((0 : Int) ≤ -1)))) rfl ?_)
  refine G_nil ?_
  refine kC_normal ?_
  refine k_ret ?_
  exact kP_any (endN (af' := (AF.put AF0 (some 4) (.exact (.bool (decide ((0 : Int) ≤ -1)))))) (σ' := []) _ rfl (Sub.of_le (AF.le_put (AV.le_eq rfl) (AF.le_top _))) ⟨rfl, rfl⟩)
set_option maxHeartbeats 4000000 in
theorem dk_check {hb : List Nat} {b nb db : Nat} {pv : Value} (s : List UInt8) (D : Dk) : Fun Try.prog 52 [pA b 0, .exact (.string (bs s)), .exact (.slice none 0 0)] [dB b nb db pv D, dM hb nb D.names] (fun a σ => a = .exact (.int .i64 (dkChk D s)) ∧ σ = [dB b nb db pv D, dM hb nb D.names]) := by
  refine fun_of_awp Try.func52 rfl Try.ntmps52 (by simp) rfl (res1 rfl) fun E hE => k_end ?_
  refine k_seq ?_
  refine k_reg .free hmixP (by kernel_rfl) ?_
  refine G_q rfl (op_assign (av := .exact (.int .i64 0)) rfl ?_)
  refine G_nil ?_
  refine kC_normal ?_
  refine k_seq ?_
  refine k_block ?_
  refine k_seq ?_
  refine k_reg .free hmixP (by kernel_rfl) ?_
  refine G_q rfl (op_move (av := pA b 0) rfl ?_)
  refine G_q rfl (op_nilCheck rfl ?_)
  refine G_q rfl (op_fieldAddr (o := 6) (by kernel_rfl) rfl ?_)
  refine G_r rfl (op_load_box1 (a := .exact (.bool D.dn)) (by kernel_rfl) rfl rfl ?_)
  refine G_q rfl (op_assign (av := .exact (.bool D.dn)) rfl ?_)
  refine G_nil ?_
  refine kC_normal ?_
  refine k_cond_b (c := D.dn) rfl (fun hc1 => ?_) (fun hc1 => ?_)
  · refine k_seq ?_
    refine k_reg .free hmixP (by kernel_rfl) ?_
    refine G_q rfl (op_assign (av := .exact (.int .i64 25)) rfl ?_)
    refine G_nil ?_
    refine kC_normal ?_
    refine k_ret ?_
    refine kB_ret ?_
    refine kC_ret ?_
    refine kP_any (endN (af' := (AF.put AF0 (some 6) (.exact (.int .i64 25)))) (σ' := [boxI 81 b [.exact (.int .i64 D.cap), .exact (.map (some nb)), .exact (.map (some db)), .exact pv, .exact (.int .i64 D.wr), .exact (.int .i64 D.fl), .exact (.bool D.dn)], dM hb nb D.names]) _ rfl (Sub.of_le (AF.le_put (AV.le_eq rfl) (AF.le_top _))) ?_)
    refine ⟨?_, rfl⟩
    have e : dkChk D s = 25 := by unfold dkChk; simp_all
    rw [e]; rfl
  · refine k_seq ?_
    refine k_reg .free hmixP (by kernel_rfl) ?_
    refine G_q rfl (op_move (av := .exact (.string (bs s))) rfl ?_)
    refine G_q rfl (op_pure (dk_valid s) Try.func54 (by kernel_rfl) (LEs.cons (AV.le_eq rfl) LEs.nil) ?_)
    refine G_q rfl (op_not_d rfl ?_)
    refine G_q rfl (op_move (av := .exact (.bool (decide (¬ (1 ≤ s.length ∧ s.length ≤ 32))))) rfl ?_)
    refine G_split (p := ¬ (1 ≤ s.length ∧ s.length ≤ 32)) 16 rfl (fun hc2 => ?_) (fun hc2 => ?_)
    · refine G_n rfl rfl ?_
      refine G_n rfl rfl ?_
      refine G_q rfl (op_pick_t rfl (av := .exact (.bool true)) rfl ?_)
      refine G_q rfl (op_assign (av := .exact (.bool true)) rfl ?_)
      refine G_nil ?_
      refine kC_normal ?_
      refine k_cond_t rfl ?_
      refine k_seq ?_
      refine k_reg .free hmixP (by kernel_rfl) ?_
      refine G_q rfl (op_assign (av := .exact (.int .i64 1)) rfl ?_)
      refine G_nil ?_
      refine kC_normal ?_
      refine k_ret ?_
      refine kB_ret ?_
      refine kC_ret ?_
      refine kP_any (endN (af' := (AF.put AF0 (some 6) (.exact (.int .i64 1)))) (σ' := [boxI 81 b [.exact (.int .i64 D.cap), .exact (.map (some nb)), .exact (.map (some db)), .exact pv, .exact (.int .i64 D.wr), .exact (.int .i64 D.fl), .exact (.bool D.dn)], dM hb nb D.names]) _ rfl (Sub.of_le (AF.le_put (AV.le_eq rfl) (AF.le_top _))) ?_)
      refine ⟨?_, rfl⟩
      have e : dkChk D s = 1 := by unfold dkChk; simp_all
      rw [e]; rfl
    · refine Gy_q rfl rfl rfl (op_move (av := .exact (.slice none 0 0)) rfl ?_)
      refine Gy_q rfl rfl rfl (op_pure dk_cfNil Try.func85 (by kernel_rfl) (LEs.cons (AV.le_eq rfl) (LEs.cons (dk_letop _) LEs.nil)) ?_)
      refine G_q rfl (op_pick_f rfl (av := .exact (.bool false)) rfl ?_)
      refine G_q rfl (op_assign (av := .exact (.bool false)) rfl ?_)
      refine G_nil ?_
      refine kC_normal ?_
      refine k_cond_f rfl ?_
      refine k_seq ?_
      refine k_reg .free hmixP (by kernel_rfl) ?_
      refine G_q rfl (op_move (av := pA b 0) rfl ?_)
      refine G_q rfl (op_nilCheck rfl ?_)
      refine G_q rfl (op_fieldAddr (o := 1) (by kernel_rfl) rfl ?_)
      refine G_r rfl (op_load_box1 (a := .exact (.map (some nb))) (by kernel_rfl) rfl rfl ?_)
      refine G_q rfl (op_move (av := .exact (.string (bs s))) rfl ?_)
      refine G_r rfl (op_mlook (z := ((-1) : Int)) (List.Mem.tail _ (List.Mem.head _)) (keyOk_str Try.underlying9) (fun _ _ _ => trivial) Try.underlying78 (fun _ w => ⟨_, Try.zeroValue88 w, zp_ref⟩) rfl (keyAV_str rfl) ?_)
      refine G_q rfl (op_eqnil_ref (t := 87) (by kernel_rfl) (by kernel_rfl) rfl rfl ?_)
      refine G_q rfl (op_assign (av := .exact (.bool (decide (((lookL D.names s).getD (-1)) = -1)))) rfl ?_)
      refine G_nil ?_
      refine kC_normal ?_
      refine k_cond_d (p := ((lookL D.names s).getD (-1)) = -1) rfl (fun hc5 => ?_) (fun hc5 => ?_)
      · refine k_seq ?_
        refine k_reg .free hmixP (by kernel_rfl) ?_
        refine G_q rfl (op_assign (av := .exact (.int .i64 21)) rfl ?_)
        refine G_nil ?_
        refine kC_normal ?_
        refine k_ret ?_
        refine kB_ret ?_
        refine kC_ret ?_
        refine kP_any (endN (af' := (AF.put AF0 (some 6) (.exact (.int .i64 21)))) (σ' := [boxI 81 b [.exact (.int .i64 D.cap), .exact (.map (some nb)), .exact (.map (some db)), .exact pv, .exact (.int .i64 D.wr), .exact (.int .i64 D.fl), .exact (.bool D.dn)], dM hb nb D.names]) _ rfl (Sub.of_le (AF.le_put (AV.le_eq rfl) (AF.le_top _))) ?_)
        refine ⟨?_, rfl⟩
        have e : dkChk D s = 21 := by unfold dkChk; simp_all
        rw [e]; rfl
      · refine k_skip ?_
        refine kB_normal ?_
        refine kC_normal ?_
        refine k_seq ?_
        refine k_reg .free hmixP (by kernel_rfl) ?_
        refine G_q rfl (op_assign (av := .exact (.int .i64 0)) rfl ?_)
        refine G_nil ?_
        refine kC_normal ?_
        refine k_ret ?_
        refine kP_any (endN (af' := (AF.put AF0 (some 6) (.exact (.int .i64 0)))) (σ' := [boxI 81 b [.exact (.int .i64 D.cap), .exact (.map (some nb)), .exact (.map (some db)), .exact pv, .exact (.int .i64 D.wr), .exact (.int .i64 D.fl), .exact (.bool D.dn)], dM hb nb D.names]) _ rfl (Sub.of_le (AF.le_put (AV.le_eq rfl) (AF.le_top _))) ?_)
        refine ⟨?_, rfl⟩
        have e : dkChk D s = 0 := by unfold dkChk; simp_all
        rw [e]; rfl
set_option maxHeartbeats 4000000 in
theorem dk_sync {hb : List Nat} {b nb db : Nat} {pv : Value} {Z : List DkZ} (s : List UInt8) (D : Dk) (hZ : D.files = Z.map (·.2)) (r : Int × Dk) (h : m_disk_Sync D s = some r) : Fun Try.prog 50 [pA b 0, .exact (.string (bs s))] (dIts hb b nb db pv D Z) (fun a σ => ∃ db' pv' Z', r.2.files = Z'.map (·.2) ∧ a = .exact (.int .i64 r.1) ∧ σ = dIts hb b nb db' pv' r.2 Z') := by
  refine fun_of_awp Try.func50 rfl Try.ntmps50 (by simp) rfl (res1 rfl) fun E hE => k_end ?_
  unfold m_disk_Sync at h
  refine k_seq ?_
  refine k_reg .free hmixP (by kernel_rfl) ?_
  refine G_q rfl (op_assign (av := .exact (.int .i64 0)) rfl ?_)
  refine G_nil ?_
  refine kC_normal ?_
  refine k_seq ?_
  refine k_seq ?_
  refine k_reg .free hmixP (by kernel_rfl) ?_
  refine G_q rfl (op_move (av := pA b 0) rfl ?_)
  refine G_q rfl (op_move (av := .exact (.string (bs s))) rfl ?_)
  refine G_l rfl (op_fun_2_0_2 (dk_check s D) Try.func52 (by kernel_rfl) (LEs.cons (AV.le_eq rfl) (LEs.cons (AV.le_eq rfl) (LEs.cons (AV.le_eq rfl) LEs.nil))) ?_)
  refine G_q rfl (op_assign (av := .exact (.int .i64 (dkChk D s))) rfl ?_)
  refine G_nil ?_
  refine kC_normal ?_
  refine k_seq ?_
  refine k_reg .free hmixP (by kernel_rfl) ?_
  refine G_q rfl (op_move (av := .exact (.int .i64 (dkChk D s))) rfl ?_)
  refine G_q rfl (op_neq rfl rfl ?_)
  refine G_nil ?_
  refine kC_normal ?_
  refine k_cond_d (p := ¬ (dkChk D s) = 0) rfl (fun hc1 => ?_) (fun hc1 => ?_)
  · refine k_seq ?_
    refine k_reg .free hmixP (by kernel_rfl) ?_
    refine G_q rfl (op_move (av := .exact (.int .i64 (dkChk D s))) rfl ?_)
    refine G_q rfl (op_assign (av := .exact (.int .i64 (dkChk D s))) rfl ?_)
    refine G_nil ?_
    refine kC_normal ?_
    refine k_ret ?_
    refine kC_ret ?_
    rw [if_pos hc1] at h
    cases h
    refine kP_any (endN (af' := (AF.put AF0 (some 4) (.exact (.int .i64 (dkChk D s))))) (σ' := [boxI 81 b [.exact (.int .i64 D.cap), .exact (.map (some nb)), .exact (.map (some db)), .exact pv, .exact (.int .i64 D.wr), .exact (.int .i64 D.fl), .exact (.bool D.dn)], dM hb nb D.names, dM hb db D.dur, dP hb pv D.pend, dH hb Z, dVs Z]) _ rfl (SubU.to (SubU.trans SubU.f5 (SubU.trans SubU.f5 (SubU.trans SubU.f5 (SubU.trans SubU.f5 (SubU.trans SubU.f5 (SubU.trans SubU.f5 (SubU.of_le (AF.le_put (AV.le_eq rfl) (AF.le_top _)))))))))) ?_)
    exact ⟨db, pv, Z, hZ, rfl, rfl⟩
  · refine k_skip ?_
    refine kC_normal ?_
    refine k_seq ?_
    refine k_seq ?_
    refine k_reg .free hmixP (by kernel_rfl) ?_
    refine G_q rfl (op_move (av := pA b 0) rfl ?_)
    refine G_l rfl (op_fun_1_0_1 (dk_write D) Try.func56 (by kernel_rfl) (LEs.cons (AV.le_eq rfl) LEs.nil) ?_)
    refine G_q rfl (op_not rfl ?_)
    refine G_nil ?_
    refine kC_normal ?_
    refine k_cond_b (c := !(!(dkWr D).dn)) rfl (fun hc2 => ?_) (fun hc2 => ?_)
    · refine k_seq ?_
      refine k_reg .free hmixP (by kernel_rfl) ?_
      refine G_q rfl (op_assign (av := .exact (.int .i64 25)) rfl ?_)
      refine G_nil ?_
      refine kC_normal ?_
      refine k_ret ?_
      refine kC_ret ?_
      rw [if_neg hc1, if_pos (by simpa using hc2)] at h
      cases h
      refine kP_any (endN (af' := (AF.put AF0 (some 4) (.exact (.int .i64 25)))) (σ' := [boxI 81 b [.exact (.int .i64 ((dkWr D).cap)), .exact (.map (some nb)), .exact (.map (some db)), .exact pv, .exact (.int .i64 ((dkWr D).wr)), .exact (.int .i64 ((dkWr D).fl)), .exact (.bool ((dkWr D).dn))], dM hb nb D.names, dM hb db D.dur, dP hb pv D.pend, dH hb Z, dVs Z]) _ rfl (SubU.to (SubU.trans SubU.f5 (SubU.trans SubU.f5 (SubU.trans SubU.f5 (SubU.trans SubU.f5 (SubU.trans SubU.f5 (SubU.trans SubU.f5 (SubU.of_le (AF.le_put (AV.le_eq rfl) (AF.le_top _)))))))))) ?_)
      exact ⟨db, pv, Z, hZ, rfl, rfl⟩
    · refine k_skip ?_
      refine kC_normal ?_
      refine k_seq ?_
      rw [if_neg hc1, if_neg (by simpa using hc2)] at h
      obtain ⟨n1, h⟩ := need_some h
      have hr : 0 ≤ (lookL D.names s).getD (-1) ∧ (lookL D.names s).getD (-1) < (Z.length : Int) := by rw [hZ, List.length_map] at n1; exact n1
      cases h
      refine k_reg .free hmixP (by kernel_rfl) ?_
      refine G_q rfl (op_move (av := pA b 0) rfl ?_)
      refine G_q rfl (op_nilCheck rfl ?_)
      refine G_q rfl (op_fieldAddr (o := 1) (by kernel_rfl) rfl ?_)
      refine G_r rfl (op_load_box1 (a := .exact (.map (some nb))) (by kernel_rfl) rfl rfl ?_)
      refine G_q rfl (op_move (av := .exact (.string (bs s))) rfl ?_)
      refine G_r rfl (op_mlook (z := ((-1) : Int)) (List.Mem.tail _ (List.Mem.head _)) (keyOk_str Try.underlying9) (fun _ _ _ => trivial) Try.underlying78 (fun _ w => ⟨_, Try.zeroValue88 w, zp_ref⟩) rfl (keyAV_str rfl) ?_)
      refine G_q rfl (op_assign (av := refA hb ((lookL D.names s).getD (-1))) rfl ?_)
      refine G_nil ?_
      refine kC_normal ?_
      refine k_seq ?_
      refine k_reg .free hmixP (by kernel_rfl) ?_
      refine G_q rfl (op_move (av := refA hb ((lookL D.names s).getD (-1))) rfl ?_)
      refine G_q rfl (op_move (av := refA hb ((lookL D.names s).getD (-1))) rfl ?_)
      refine G_q rfl (op_nilC_ref rfl (by omega) ?_)
      refine G_q rfl (op_field_hpt (o := 0) (by kernel_rfl) rfl ?_)
      refine G_r rfl (op_load_hpt (t := 87) (enc := fEnc) (H := Z) (a := .exact (gi Z ((lookL D.names s).getD (-1))).1) (List.Mem.tail _ (List.Mem.tail _ (List.Mem.tail _ (List.Mem.tail _ (List.Mem.head _))))) (by kernel_rfl) rfl rfl ?_)
      refine G_r rfl (op_len_dVs (i := ((lookL D.names s).getD (-1))) (Z := Z) (List.Mem.tail _ (List.Mem.tail _ (List.Mem.tail _ (List.Mem.tail _ (List.Mem.tail _ (List.Mem.head _)))))) (by kernel_rfl) hr.1 hr.2 rfl ?_)
      refine G_q rfl (op_nilC_ref rfl (by omega) ?_)
      refine G_q rfl (op_field_hpt (o := 1) (by kernel_rfl) rfl ?_)
      refine G_l rfl (opB_f4 (op_store_hpt (i := ((lookL D.names s).getD (-1))) (o := 1) (z := ((gi Z ((lookL D.names s).getD (-1))).1, (gi Z ((lookL D.names s).getD (-1))).2.1, ((gi Z ((lookL D.names s).getD (-1))).2.1.length : Int))) (c' := [.exact (.int .i64 ((gi Z ((lookL D.names s).getD (-1))).2.1.length : Int))]) rfl rfl CellsOf.int (LEs.cons (AV.le_eq rfl) LEs.nil) (OneC.int OneC.nil) (by kernel_rfl) (Nat.le_of_ble_eq_true rfl) rfl ?_))
      refine G_nil ?_
      refine kC_normal ?_
      refine k_seq ?_
      refine k_reg .free hmixP (by kernel_rfl) ?_
      refine G_q rfl (op_move (av := pA b 0) rfl ?_)
      refine G_q rfl (op_move (av := pA b 0) rfl ?_)
      refine G_q rfl (op_nilCheck rfl ?_)
      refine G_q rfl (op_fieldAddr (o := 1) (by kernel_rfl) rfl ?_)
      refine G_r rfl (opR_f1 (op_load_box1 (a := .exact (.map (some nb))) (by kernel_rfl) rfl rfl ?_))
      refine G_l rfl (opB_f2 (op_fun_1_1_2 dk_clone Try.func73 (by kernel_rfl) (LEs.cons (AV.le_eq rfl) LEs.nil) (fun nc => ?_)))
      refine G_q rfl (op_nilCheck rfl ?_)
      refine G_q rfl (op_fieldAddr (o := 2) (by kernel_rfl) rfl ?_)
      refine G_l rfl (opB_f3 (op_store_box (c' := [.exact (.map (some nc))]) (c3 := [.exact (.int .i64 ((dkWr D).cap)), .exact (.map (some nb)), .exact (.map (some nc)), .exact pv, .exact (.int .i64 ((dkWr D).wr)), .exact (.int .i64 ((dkWr D).fl)), .exact (.bool ((dkWr D).dn))]) rfl rfl CellsOf.mapz (LEs.cons (AV.le_eq rfl) LEs.nil) (OneC.mapz OneC.nil) (by kernel_rfl) (Nat.le_of_ble_eq_true rfl) rfl ?_))
      refine G_nil ?_
      refine kC_normal ?_
      refine k_seq ?_
      refine k_reg .free hmixP (by kernel_rfl) ?_
      refine G_q rfl (op_move (av := pA b 0) rfl ?_)
      refine G_q rfl (op_nilCheck rfl ?_)
      refine G_q rfl (op_fieldAddr (o := 3) (by kernel_rfl) rfl ?_)
      refine G_l rfl (op_store_box (c' := [.exact (.slice none 0 0)]) (c3 := [.exact (.int .i64 ((dkWr D).cap)), .exact (.map (some nb)), .exact (.map (some nc)), .exact (.slice none 0 0), .exact (.int .i64 ((dkWr D).wr)), .exact (.int .i64 ((dkWr D).fl)), .exact (.bool ((dkWr D).dn))]) rfl rfl CellsOf.slice (LEs.cons (AV.le_eq rfl) LEs.nil) OneC.nilc (by kernel_rfl) (Nat.le_of_ble_eq_true rfl) rfl ?_)
      refine G_nil ?_
      refine kC_normal ?_
      refine k_seq ?_
      refine k_reg .free hmixP (by kernel_rfl) ?_
      refine G_q rfl (op_assign (av := .exact (.int .i64 0)) rfl ?_)
      refine G_nil ?_
      refine kC_normal ?_
      refine k_ret ?_
      refine kP_any (endN (af' := (AF.put AF0 (some 4) (.exact (.int .i64 0)))) (σ' := [boxI 81 b [.exact (.int .i64 ((dkWr D).cap)), .exact (.map (some nb)), .exact (.map (some nc)), .exact (.slice none 0 0), .exact (.int .i64 ((dkWr D).wr)), .exact (.int .i64 ((dkWr D).fl)), .exact (.bool ((dkWr D).dn))], dM hb nb D.names, dM hb nc D.names, dP hb (.slice none 0 0) [], dH hb (Z.set (((lookL D.names s).getD (-1))).toNat ((gi Z ((lookL D.names s).getD (-1))).1, (gi Z ((lookL D.names s).getD (-1))).2.1, ((gi Z ((lookL D.names s).getD (-1))).2.1.length : Int))), dVs Z]) _ rfl (SubU.to (SubU.trans SubU.f4 (SubU.trans SubU.drop (SubU.trans SubU.f4 (SubU.trans SubU.drop (SubU.trans (SubU.nilT (P := Try.prog) (t := 79) (n := 3) (enc := opE hb)) (SubU.trans SubU.f5 (SubU.trans SubU.f5 (SubU.trans SubU.f2 (SubU.trans SubU.f4 (SubU.trans SubU.f5 (SubU.trans SubU.f5 (SubU.of_le (AF.le_put (AV.le_eq rfl) (AF.le_top _))))))))))))))) ?_)
      refine ⟨nc, .slice none 0 0, Z.set (((lookL D.names s).getD (-1))).toNat ((gi Z ((lookL D.names s).getD (-1))).1, (gi Z ((lookL D.names s).getD (-1))).2.1, ((gi Z ((lookL D.names s).getD (-1))).2.1.length : Int)), ?_, rfl, ?_⟩
      · dsimp only; rw [hZ, List.map_set, gi_map hr.1 hr.2]
      · have hV : dVs (Z.set (((lookL D.names s).getD (-1))).toNat ((gi Z ((lookL D.names s).getD (-1))).1, (gi Z ((lookL D.names s).getD (-1))).2.1, ((gi Z ((lookL D.names s).getD (-1))).2.1.length : Int))) = dVs Z := congrArg allI (dV_set hr.1 hr.2 _)
        unfold dIts
        rw [hV]
        rfl
set_option maxHeartbeats 4000000 in
theorem dk_byClone (a : List UInt8) (ha : a.length ≤ 137438953472) : Fun Try.prog 53 [.row 1 cU8 a] [] (fun r s => ∃ z, r = .exact z ∧ s = [vecT Try.prog 32 1 cU8 z a]) := by
  refine fun_of_awp Try.func53 rfl Try.ntmps53 (by simp) rfl (res1 rfl) fun E hE => k_end ?_
  refine k_seq ?_
  refine k_reg .free hmixP (by kernel_rfl) ?_
  refine G_q rfl (op_assign (av := .exact (.slice none 0 0)) rfl ?_)
  refine G_nil ?_
  refine kC_normal ?_
  refine k_seq ?_
  refine k_seq ?_
  refine k_reg .free hmixP (by kernel_rfl) ?_
  refine G_q rfl (op_move (av := .row 1 cU8 a) rfl ?_)
  refine G_q rfl (op_eqnil_row (by kernel_rfl) rfl ?_)
  refine G_nil ?_
  refine kC_normal ?_
  refine k_cond_u (p := a = []) rfl (fun hc => ?_) ?_
  · refine k_seq ?_
    refine k_reg .free hmixP (by kernel_rfl) ?_
    refine G_q rfl (op_assign (av := .exact (.slice none 0 0)) rfl ?_)
    refine G_nil ?_
    refine kC_normal ?_
    refine k_ret ?_
    refine kC_ret ?_
    subst hc
    exact kP_any (endN (af' := (AF.put AF0 (some 2) (.exact (.slice none 0 0)))) (σ' := [vecT Try.prog 32 1 cU8 (.slice none 0 0) []]) _ rfl (SubU.to (SubU.trans (SubU.nilT (P := Try.prog) (t := 32) (n := 1) (enc := cU8)) (SubU.of_le (AF.le_put (AV.le_eq rfl) (AF.le_top _))))) ⟨_, rfl, rfl⟩)
  · refine k_skip ?_
    refine kC_normal ?_
    refine k_seq ?_
    refine k_reg .free hmixP (by kernel_rfl) ?_
    refine G_l rfl (op_lit0I (enc := cU8) (n := 1) (by kernel_rfl) (fun v5 => ?_))
    refine G_q rfl (op_move (av := .row 1 cU8 a) rfl ?_)
    refine G_l rfl (op_appT (by kernel_rfl) rfl rfl dk_ocU8 (by show _ ≤ 137438953472; simpa using ha) (fun v7 => ?_))
    refine G_q rfl (op_assign (av := .exact v7) rfl ?_)
    refine G_nil ?_
    refine kC_normal ?_
    refine k_ret ?_
    exact kP_any (endN (af' := (AF.put AF0 (some 2) (.exact v7))) (σ' := [vecT Try.prog 32 1 cU8 v7 a]) _ rfl (Sub.of_le (AF.le_put (AV.le_eq rfl) (AF.le_top _))) ⟨_, rfl, rfl⟩)
set_option maxHeartbeats 4000000 in
theorem dk_read {hb : List Nat} {b nb db : Nat} {pv : Value} {Z : List DkZ} (s : List UInt8) (D : Dk) (hZ : D.files = Z.map (·.2)) (r : List UInt8 × Int × Dk) (h : m_disk_Read D s = some r) : Fun Try.prog 26 [pA b 0, .exact (.string (bs s))] (dIts hb b nb db pv D Z) (fun a σ => a = .tup [.row 1 cU8 r.1, .exact (.int .i64 r.2.1)] ∧ σ = dIts hb b nb db pv r.2.2 Z) := by
  refine fun_of_awp Try.func26 rfl Try.ntmps26 (by simp) rfl (res2 rfl) fun E hE => k_end ?_
  unfold m_disk_Read at h
  refine k_seq ?_
  refine k_reg .free hmixP (by kernel_rfl) ?_
  refine G_q rfl (op_assign (av := .exact (.slice none 0 0)) rfl ?_)
  refine G_q rfl (op_assign (av := .exact (.int .i64 0)) rfl ?_)
  refine G_nil ?_
  refine kC_normal ?_
  refine k_seq ?_
  refine k_seq ?_
  refine k_reg .free hmixP (by kernel_rfl) ?_
  refine G_q rfl (op_move (av := pA b 0) rfl ?_)
  refine G_q rfl (op_move (av := .exact (.string (bs s))) rfl ?_)
  refine G_l rfl (op_fun_2_0_2 (dk_check s D) Try.func52 (by kernel_rfl) (LEs.cons (AV.le_eq rfl) (LEs.cons (AV.le_eq rfl) (LEs.cons (AV.le_eq rfl) LEs.nil))) ?_)
  refine G_q rfl (op_assign (av := .exact (.int .i64 (dkChk D s))) rfl ?_)
  refine G_nil ?_
  refine kC_normal ?_
  refine k_seq ?_
  refine k_reg .free hmixP (by kernel_rfl) ?_
  refine G_q rfl (op_move (av := .exact (.int .i64 (dkChk D s))) rfl ?_)
  refine G_q rfl (op_neq rfl rfl ?_)
  refine G_nil ?_
  refine kC_normal ?_
  refine k_cond_d (p := ¬ (dkChk D s) = 0) rfl (fun hc1 => ?_) (fun hc1 => ?_)
  · refine k_seq ?_
    refine k_reg .free hmixP (by kernel_rfl) ?_
    refine G_q rfl (op_move (av := .exact (.int .i64 (dkChk D s))) rfl ?_)
    refine G_q rfl (op_assign (av := .exact (.slice none 0 0)) rfl ?_)
    refine G_q rfl (op_assign (av := .exact (.int .i64 (dkChk D s))) rfl ?_)
    refine G_nil ?_
    refine kC_normal ?_
    refine k_ret ?_
    refine kC_ret ?_
    rw [if_pos hc1] at h
    cases h
    refine kP_any (endN (af' := (AF.put (AF.put AF0 (some 4) (.row 1 cU8 [])) (some 5) (.exact (.int .i64 (dkChk D s))))) (σ' := [boxI 81 b [.exact (.int .i64 D.cap), .exact (.map (some nb)), .exact (.map (some db)), .exact pv, .exact (.int .i64 D.wr), .exact (.int .i64 D.fl), .exact (.bool D.dn)], dM hb nb D.names, dM hb db D.dur, dP hb pv D.pend, dH hb Z, dVs Z]) _ rfl (Sub.of_le (AF.le_put (AV.le_eq rfl) (AF.le_put (row_nil (by decide)) (AF.le_top _)))) ?_)
    exact ⟨rfl, rfl⟩
  · refine k_skip ?_
    refine kC_normal ?_
    refine k_seq ?_
    rw [if_neg hc1] at h
    obtain ⟨n1, h⟩ := need_some h
    have hr : 0 ≤ (lookL D.names s).getD (-1) ∧ (lookL D.names s).getD (-1) < (Z.length : Int) := by rw [hZ, List.length_map] at n1; exact n1
    obtain ⟨n2, h⟩ := need_some h
    rw [hZ, gi_map hr.1 hr.2] at n2 h
    cases h
    refine k_reg .free hmixP (by kernel_rfl) ?_
    refine G_q rfl (op_move (av := pA b 0) rfl ?_)
    refine G_q rfl (op_nilCheck rfl ?_)
    refine G_q rfl (op_fieldAddr (o := 1) (by kernel_rfl) rfl ?_)
    refine G_r rfl (op_load_box1 (a := .exact (.map (some nb))) (by kernel_rfl) rfl rfl ?_)
    refine G_q rfl (op_move (av := .exact (.string (bs s))) rfl ?_)
    refine G_r rfl (op_mlook (z := ((-1) : Int)) (List.Mem.tail _ (List.Mem.head _)) (keyOk_str Try.underlying9) (fun _ _ _ => trivial) Try.underlying78 (fun _ w => ⟨_, Try.zeroValue88 w, zp_ref⟩) rfl (keyAV_str rfl) ?_)
    refine G_q rfl (op_nilC_ref rfl (by omega) ?_)
    refine G_q rfl (op_field_hpt (o := 0) (by kernel_rfl) rfl ?_)
    refine G_r rfl (op_load_hpt (t := 87) (enc := fEnc) (H := Z) (a := .exact (gi Z ((lookL D.names s).getD (-1))).1) (List.Mem.tail _ (List.Mem.tail _ (List.Mem.tail _ (List.Mem.tail _ (List.Mem.head _))))) (by kernel_rfl) rfl rfl ?_)
    refine G_l rfl (op_ownB (dk_byClone _ n2) Try.func53 (by kernel_rfl) (mi_cU8 _) (Bors.cons (Bor.dVs (List.Mem.tail _ (List.Mem.tail _ (List.Mem.tail _ (List.Mem.tail _ (List.Mem.tail _ (List.Mem.head _)))))) hr.1 hr.2) Bors.nil) (fun z => ?_))
    refine G_q rfl (op_assign (av := .exact z) rfl ?_)
    refine G_q rfl (op_assign (av := .exact (.int .i64 0)) rfl ?_)
    refine G_nil ?_
    refine kC_normal ?_
    refine k_ret ?_
    refine kP_any (endN (af' := (AF.put (AF.put AF0 (some 4) (.row 1 cU8 (gi Z ((lookL D.names s).getD (-1))).2.1)) (some 5) (.exact (.int .i64 0)))) (σ' := [boxI 81 b [.exact (.int .i64 D.cap), .exact (.map (some nb)), .exact (.map (some db)), .exact pv, .exact (.int .i64 D.wr), .exact (.int .i64 D.fl), .exact (.bool D.dn)], dM hb nb D.names, dM hb db D.dur, dP hb pv D.pend, dH hb Z, dVs Z]) _ rfl (SubU.to (SubU.trans (SubU.freezeT (s := 4) rfl (fun _ => rfl)) (SubU.of_le (AF.le_put (AV.le_eq rfl) (AF.le_put (AV.le_eq rfl) (AF.le_top _)))))) ?_)
    exact ⟨rfl, rfl⟩
set_option maxHeartbeats 4000000 in
theorem dk_append {hb : List Nat} {b nb db : Nat} {pv : Value} {Z : List DkZ} (s y : List UInt8) (D : Dk) (hZ : D.files = Z.map (·.2)) (r : Int × Dk) (h : m_disk_Append D s y = some r) : Fun Try.prog 27 [pA b 0, .exact (.string (bs s)), .row 1 cU8 y] (dIts hb b nb db pv D Z) (fun a σ => ∃ hb' db' pv' Z', r.2.files = Z'.map (·.2) ∧ a = .exact (.int .i64 r.1) ∧ σ = dIts hb' b nb db' pv' r.2 Z') := by
  refine fun_of_awp Try.func27 rfl Try.ntmps27 (by simp) rfl (res1 rfl) fun E hE => k_end ?_
  unfold m_disk_Append at h
  refine k_seq ?_
  refine k_reg .free hmixP (by kernel_rfl) ?_
  refine G_q rfl (op_assign (av := .exact (.int .i64 0)) rfl ?_)
  refine G_nil ?_
  refine kC_normal ?_
  refine k_seq ?_
  refine k_reg .free hmixP (by kernel_rfl) ?_
  refine G_q rfl (op_move (av := pA b 0) rfl ?_)
  refine G_q rfl (op_nilCheck rfl ?_)
  refine G_q rfl (op_fieldAddr (o := 1) (by kernel_rfl) rfl ?_)
  refine G_r rfl (op_load_box1 (a := .exact (.map (some nb))) (by kernel_rfl) rfl rfl ?_)
  refine G_q rfl (op_move (av := .exact (.string (bs s))) rfl ?_)
  refine G_r rfl (op_mlook (z := ((-1) : Int)) (List.Mem.tail _ (List.Mem.head _)) (keyOk_str Try.underlying9) (fun _ _ _ => trivial) Try.underlying78 (fun _ w => ⟨_, Try.zeroValue88 w, zp_ref⟩) rfl (keyAV_str rfl) ?_)
  refine G_q rfl (op_assign (av := refA hb ((lookL D.names s).getD (-1))) rfl ?_)
  refine G_nil ?_
  refine kC_normal ?_
  refine k_seq ?_
  refine k_block ?_
  refine k_seq ?_
  refine k_reg .free hmixP (by kernel_rfl) ?_
  refine G_q rfl (op_move (av := pA b 0) rfl ?_)
  refine G_q rfl (op_nilCheck rfl ?_)
  refine G_q rfl (op_fieldAddr (o := 6) (by kernel_rfl) rfl ?_)
  refine G_r rfl (op_load_box1 (a := .exact (.bool D.dn)) (by kernel_rfl) rfl rfl ?_)
  refine G_q rfl (op_assign (av := .exact (.bool D.dn)) rfl ?_)
  refine G_nil ?_
  refine kC_normal ?_
  refine k_cond_b (c := D.dn) rfl (fun hc1 => ?_) (fun hc1 => ?_)
  · refine k_seq ?_
    refine k_reg .free hmixP (by kernel_rfl) ?_
    refine G_q rfl (op_assign (av := .exact (.int .i64 25)) rfl ?_)
    refine G_nil ?_
    refine kC_normal ?_
    refine k_ret ?_
    refine kB_ret ?_
    refine kC_ret ?_
    rw [if_pos hc1] at h
    cases h
    refine kP_any (endN (af' := (AF.put AF0 (some 6) (.exact (.int .i64 25)))) (σ' := [boxI 81 b [.exact (.int .i64 D.cap), .exact (.map (some nb)), .exact (.map (some db)), .exact pv, .exact (.int .i64 D.wr), .exact (.int .i64 D.fl), .exact (.bool D.dn)], dM hb nb D.names, dM hb db D.dur, dP hb pv D.pend, dH hb Z, dVs Z]) _ rfl (SubU.to (SubU.trans SubU.f5 (SubU.trans SubU.f5 (SubU.trans SubU.f5 (SubU.trans SubU.f5 (SubU.trans SubU.f5 (SubU.trans SubU.f5 (SubU.of_le (AF.le_put (AV.le_eq rfl) (AF.le_top _)))))))))) ?_)
    exact ⟨hb, db, pv, Z, hZ, rfl, rfl⟩
  · refine k_seq ?_
    refine k_reg .free hmixP (by kernel_rfl) ?_
    refine G_q rfl (op_move (av := .exact (.string (bs s))) rfl ?_)
    refine G_q rfl (op_pure (dk_valid s) Try.func54 (by kernel_rfl) (LEs.cons (AV.le_eq rfl) LEs.nil) ?_)
    refine G_q rfl (op_not_d rfl ?_)
    refine G_q rfl (op_assign (av := .exact (.bool (decide (¬ (1 ≤ s.length ∧ s.length ≤ 32))))) rfl ?_)
    refine G_nil ?_
    refine kC_normal ?_
    refine k_cond_d (p := ¬ (1 ≤ s.length ∧ s.length ≤ 32)) rfl (fun hc2 => ?_) (fun hc2 => ?_)
    · refine k_seq ?_
      refine k_reg .free hmixP (by kernel_rfl) ?_
      refine G_q rfl (op_assign (av := .exact (.int .i64 1)) rfl ?_)
      refine G_nil ?_
      refine kC_normal ?_
      refine k_ret ?_
      refine kB_ret ?_
      refine kC_ret ?_
      rw [if_neg hc1, if_pos hc2] at h
      cases h
      refine kP_any (endN (af' := (AF.put AF0 (some 6) (.exact (.int .i64 1)))) (σ' := [boxI 81 b [.exact (.int .i64 D.cap), .exact (.map (some nb)), .exact (.map (some db)), .exact pv, .exact (.int .i64 D.wr), .exact (.int .i64 D.fl), .exact (.bool D.dn)], dM hb nb D.names, dM hb db D.dur, dP hb pv D.pend, dH hb Z, dVs Z]) _ rfl (SubU.to (SubU.trans SubU.f5 (SubU.trans SubU.f5 (SubU.trans SubU.f5 (SubU.trans SubU.f5 (SubU.trans SubU.f5 (SubU.trans SubU.f5 (SubU.of_le (AF.le_put (AV.le_eq rfl) (AF.le_top _)))))))))) ?_)
      exact ⟨hb, db, pv, Z, hZ, rfl, rfl⟩
    · refine k_seq ?_
      refine k_seq ?_
      refine k_reg .free hmixP (by kernel_rfl) ?_
      refine G_q rfl (op_move (av := refA hb ((lookL D.names s).getD (-1))) rfl ?_)
      refine G_q rfl (op_eqnil_ref (t := 87) (by kernel_rfl) (by kernel_rfl) rfl rfl ?_)
      refine G_q rfl (op_move (av := .exact (.bool (decide (((lookL D.names s).getD (-1)) = -1)))) rfl ?_)
      refine G_split (p := ((lookL D.names s).getD (-1)) = -1) 27 rfl (fun hc3 => ?_) (fun hc3 => ?_)
      · refine Gy_q rfl rfl rfl (op_move (av := pA b 0) rfl ?_)
        refine Gy_q rfl rfl rfl (op_nilCheck rfl ?_)
        refine Gy_q rfl rfl rfl (op_fieldAddr (o := 1) (by kernel_rfl) rfl ?_)
        refine Gy_r rfl rfl rfl (op_load_box1 (a := .exact (.map (some nb))) (by kernel_rfl) rfl rfl ?_)
        refine Gy_r rfl rfl rfl (op_mlen (List.Mem.tail _ (List.Mem.head _)) Try.underlying78 rfl ?_)
        refine Gy_q rfl rfl rfl (op_geq rfl rfl ?_)
        refine G_q rfl (op_pick_t rfl (av := .exact (.bool (decide (64 ≤ (List.length D.names : Int))))) rfl ?_)
        refine G_q rfl (op_assign (av := .exact (.bool (decide (64 ≤ (List.length D.names : Int))))) rfl ?_)
        refine G_nil ?_
        refine kC_normal ?_
        refine k_cond_d (p := 64 ≤ (List.length D.names : Int)) rfl (fun hc4 => ?_) (fun hc4 => ?_)
        · refine k_skip ?_
          refine kC_normal ?_
          refine k_cond_d (p := 64 ≤ (List.length D.names : Int)) rfl (fun _ => ?_) (fun hc5 => absurd hc4 hc5)
          refine k_seq ?_
          refine k_reg .free hmixP (by kernel_rfl) ?_
          refine G_q rfl (op_assign (av := .exact (.int .i64 10)) rfl ?_)
          refine G_nil ?_
          refine kC_normal ?_
          refine k_ret ?_
          refine kB_ret ?_
          refine kC_ret ?_
          rw [if_neg hc1, if_neg hc2, if_pos (by omega)] at h
          cases h
          refine kP_any (endN (af' := (AF.put AF0 (some 6) (.exact (.int .i64 10)))) (σ' := [boxI 81 b [.exact (.int .i64 D.cap), .exact (.map (some nb)), .exact (.map (some db)), .exact pv, .exact (.int .i64 D.wr), .exact (.int .i64 D.fl), .exact (.bool D.dn)], dM hb nb D.names, dM hb db D.dur, dP hb pv D.pend, dH hb Z, dVs Z]) _ rfl (SubU.to (SubU.trans SubU.f5 (SubU.trans SubU.f5 (SubU.trans SubU.f5 (SubU.trans SubU.f5 (SubU.trans SubU.f5 (SubU.trans SubU.f5 (SubU.of_le (AF.le_put (AV.le_eq rfl) (AF.le_top _)))))))))) ?_)
          exact ⟨hb, db, pv, Z, hZ, rfl, rfl⟩
        · rw [if_neg hc1, if_neg hc2, if_neg (by omega)] at h
          obtain ⟨u, hu, h⟩ := bnd1_some h
          refine k_plan [dB b nb db pv D] [(0, 0), (0, 1), (0, 2), (0, 3), (0, 4), (4, 5), (0, 6), (3, 7), (0, 8), (0, 9), (0, 10)] hmixP (by kernel_rfl) ?_
          refine P_q no34_0 rfl (op_move (av := .row 1 cU8 y) rfl ?_)
          refine P_q no34_0 rfl (op_len_row (by kernel_rfl) rfl ?_)
          refine P_q no34_0 rfl (op_move (av := pA b 0) rfl ?_)
          refine P_q no34_0 rfl (op_nilCheck rfl ?_)
          refine P_q no34_0 rfl (op_fieldAddr (o := 0) (by kernel_rfl) rfl ?_)
          refine P_r4 (Has.cons (List.Mem.head _) Has.mk0) rfl (opI_mk (List.Mem.head _) (fun _ => op_load_box1 (a := .exact (.int .i64 D.cap)) (by kernel_rfl) rfl rfl rfl) ?_)
          refine P_q no34_0 rfl (op_move (av := pA b 0) rfl ?_)
          refine P_l3 rfl (opB_f5 (opB_f5 (opB_f3 (opB_f3 (op_fun_4_0_4 (dk_used D hZ u hu) Try.func55 (by kernel_rfl) (LEs.cons (AV.le_eq rfl) LEs.nil) ⟨Has.cons (List.Mem.head _) Has.mk0, ?_⟩)))))
          refine P_q no34_0 rfl (op_sub rfl rfl rfl ?_)
          refine P_q no34_0 rfl (op_gtr rfl rfl ?_)
          refine P_q no34_0 rfl (op_assign (av := .exact (.bool (decide ((i64 (D.cap - u)) < (List.length y : Int))))) rfl ?_)
          refine P_nil ?_
          refine kC_normal ?_
          refine k_cond_d (p := (i64 (D.cap - u)) < (List.length y : Int)) rfl (fun hc6 => ?_) (fun hc6 => ?_)
          · refine k_seq ?_
            refine k_reg .free hmixP (by kernel_rfl) ?_
            refine G_q rfl (op_assign (av := .exact (.int .i64 10)) rfl ?_)
            refine G_nil ?_
            refine kC_normal ?_
            refine k_ret ?_
            refine kB_ret ?_
            refine kC_ret ?_
            rw [if_pos hc6] at h
            cases h
            refine kP_any (endN (af' := (AF.put AF0 (some 6) (.exact (.int .i64 10)))) (σ' := [boxI 81 b [.exact (.int .i64 D.cap), .exact (.map (some nb)), .exact (.map (some db)), .exact pv, .exact (.int .i64 D.wr), .exact (.int .i64 D.fl), .exact (.bool D.dn)], dM hb nb D.names, dM hb db D.dur, dP hb pv D.pend, dH hb Z, dVs Z]) _ rfl (SubU.to (SubU.trans SubU.f3 (SubU.trans SubU.f3 (SubU.trans SubU.f5 (SubU.trans SubU.f5 (SubU.trans SubU.f5 (SubU.trans SubU.f5 (SubU.of_le (AF.le_put (AV.le_eq rfl) (AF.le_top _)))))))))) ?_)
            exact ⟨hb, db, pv, Z, hZ, rfl, rfl⟩
          · refine k_skip ?_
            refine kB_normal ?_
            refine kC_normal ?_
            refine k_seq ?_
            rw [if_neg hc6] at h
            obtain ⟨hy, h⟩ := need_some h
            refine k_reg .free hmixP (by kernel_rfl) ?_
            refine G_q rfl (op_assign (av := .exact (.int .i64 0)) rfl ?_)
            refine G_nil ?_
            refine kC_normal ?_
            refine k_seq ?_
            refine k_seq ?_
            refine k_reg .free hmixP (by kernel_rfl) ?_
            refine G_q rfl (op_move (av := pA b 0) rfl ?_)
            refine G_l rfl (op_fun_1_0_1 (dk_write D) Try.func56 (by kernel_rfl) (LEs.cons (AV.le_eq rfl) LEs.nil) ?_)
            refine G_q rfl (op_not rfl ?_)
            refine G_nil ?_
            refine kC_normal ?_
            refine k_cond_b (c := !(!(dkWr D).dn)) rfl (fun hc7 => ?_) (fun hc7 => ?_)
            · refine k_reg .free hmixP (by kernel_rfl) ?_
              refine G_q rfl (op_move (av := .row 1 cU8 y) rfl ?_)
              refine G_q rfl (op_move (av := .row 1 cU8 y) rfl ?_)
              refine G_q rfl (op_len_row (by kernel_rfl) rfl ?_)
              refine G_q rfl (op_quo rfl rfl (by decide) (dk_half hy) ?_)
              refine G_q rfl (op_slice_rowt (by kernel_rfl) rfl bnd_none (bnd_some rfl) (Int.le_refl _) (by omega) (by omega) ?_)
              refine G_q rfl (op_assign (av := .row 1 cU8 (y.take (y.length / 2))) rfl ?_)
              refine G_q rfl (op_assign (av := .exact (.int .i64 25)) rfl ?_)
              refine G_nil ?_
              refine kC_normal ?_
              refine k_seq ?_
              refine k_seq ?_
              have hby : dkBy D y = (y.take (y.length / 2), 25) := by unfold dkBy; rw [if_pos (by simpa using hc7)]
              rw [hby] at h
              rw [if_pos hc3] at h
              obtain ⟨hpl, h⟩ := need_some h
              cases h
              refine k_reg .free hmixP (by kernel_rfl) ?_
              refine G_q rfl (op_move (av := refA hb ((lookL D.names s).getD (-1))) rfl ?_)
              refine G_q rfl (op_eqnil_ref (t := 87) (by kernel_rfl) (by kernel_rfl) rfl rfl ?_)
              refine G_nil ?_
              refine kC_normal ?_
              refine k_cond_d (p := ((lookL D.names s).getD (-1)) = -1) rfl (fun _ => ?_) (fun hc8 => absurd hc3 hc8)
              refine k_seq ?_
              refine k_reg .free hmixP (by kernel_rfl) ?_
              refine G_q rfl (op_bld (c' := [.exact (.slice none 0 0), .exact (.int .i64 0)]) CellsAll.nil rfl (LEs.cons (AV.le_eq rfl) (LEs.cons (AV.le_eq rfl) LEs.nil)) ?_)
              refine G_l rfl (op_boxI (c := [.exact (.slice none 0 0), .exact (.int .i64 0)]) rfl CellsOf.agg (LEs.cons (AV.le_eq rfl) (LEs.cons (AV.le_eq rfl) LEs.nil)) (fun fb => ?_))
              refine G_q rfl (op_assign (av := pA fb 0) rfl ?_)
              refine G_nil ?_
              refine kC_normal ?_
              refine k_reg .free hmixP (by kernel_rfl) ?_
              refine G_sub rfl (SubU.trans SubU.f3 (SubU.trans SubU.f1 (SubU.trans (SubU.addHeap (s := 7) (x := z0) (enc' := fEnc) rfl (LEs.cons (AV.le_eq rfl) (LEs.cons (AV.le_eq rfl) LEs.nil)) (fun _ => (LEs.cons (AV.le_eq rfl) (LEs.cons (AV.le_eq rfl) LEs.nil)))) (SubU.trans SubU.f2 (SubU.trans (SubU.mapLe (vv' := fun x : Int => refA (hb ++ [fb]) x) (fun _ => refA_mono)) (SubU.trans SubU.f4 (SubU.trans (SubU.mapLe (vv' := fun x : Int => refA (hb ++ [fb]) x) (fun _ => refA_mono)) (SubU.trans SubU.f5 (SubU.trans (SubU.vecLe (enc' := opE (hb ++ [fb])) (fun _ => LEs.cons (AV.le_eq rfl) (LEs.cons (AV.le_eq rfl) (LEs.cons refA_mono LEs.nil)))) (SubU.trans SubU.f5 ((SubU.addNil (f := dV) (x := z0) dV_own dV_nil)))))))))))) ?_
              refine G_q rfl (op_move (av := pA b 0) rfl ?_)
              refine G_q rfl (op_move (av := .exact (.string (bs s))) rfl ?_)
              refine G_q rfl (op_move (av := refA (hb ++ [fb]) (Z.length : Int)) rfl ?_)
              refine G_q rfl (op_bld (c' := [.exact (.string (bs [])), .exact (.string (bs s)), refA (hb ++ [fb]) (Z.length : Int)]) (CellsAll.cons rfl CellsOf.str (CellsAll.cons rfl CellsOf.ref CellsAll.nil)) rfl (LEs.cons (AV.le_eq rfl) (LEs.cons (AV.le_eq rfl) (LEs.cons (AV.le_eq rfl) LEs.nil))) ?_)
              refine G_l rfl (opB_f1 (opB_f3 (opB_f5 (op_fun_3_1_3 (dk_change [] s (Z.length : Int) (dkWr D) hpl) Try.func57 (by kernel_rfl) (LEs.cons (AV.le_eq rfl) (LEs.cons (AV.le_eq rfl) LEs.nil)) (fun pv' => ?_)))))
              refine G_nil ?_
              refine kC_normal ?_
              refine k_seq ?_
              refine k_reg .free hmixP (by kernel_rfl) ?_
              have hz : 0 ≤ (Z.length : Int) ∧ (Z.length : Int) < (((Z ++ [z0]).length : Nat) : Int) := by rw [List.length_append, List.length_singleton]; omega
              refine G_sub rfl (SubU.trans SubU.f3 (SubU.takeG (f := dV) hz.1 hz.2)) ?_
              refine G_q rfl (op_move (av := refA (hb ++ [fb]) (Z.length : Int)) rfl ?_)
              refine G_q rfl (op_move (av := refA (hb ++ [fb]) (Z.length : Int)) rfl ?_)
              refine G_q rfl (op_nilC_ref rfl (by omega) ?_)
              refine G_q rfl (op_field_hpt (o := 0) (by kernel_rfl) rfl ?_)
              refine G_r rfl (op_load_hpt (t := 87) (enc := fEnc) (H := (Z ++ [z0])) (a := .exact (gi (Z ++ [z0]) (Z.length : Int)).1) (List.Mem.tail _ (List.Mem.tail _ (List.Mem.tail _ (List.Mem.tail _ (List.Mem.tail _ (List.Mem.tail _ (List.Mem.head _))))))) (by kernel_rfl) rfl rfl ?_)
              refine G_q rfl (op_move (av := .row 1 cU8 (y.take (y.length / 2))) rfl ?_)
              refine G_l rfl (op_appT (by kernel_rfl) rfl rfl dk_ocU8 (by show _ ≤ 137438953472; rw [dk_gil]; simp; omega) (fun v' => ?_))
              refine G_q rfl (op_nilC_ref rfl (by omega) ?_)
              refine G_q rfl (op_field_hpt (o := 0) (by kernel_rfl) rfl ?_)
              refine G_l rfl (opB_sl (List.Mem.head _) (fun hsl => opB_f6 (op_store_hpt (i := (Z.length : Int)) (o := 0) (z := (v', (gi (Z ++ [z0]) (Z.length : Int)).2.1 ++ (y.take (y.length / 2)), (gi (Z ++ [z0]) (Z.length : Int)).2.2)) (c' := [.exact v']) rfl rfl (CellsOf.sl hsl) (LEs.cons (AV.le_eq rfl) LEs.nil) (OneC.sl hsl OneC.nil) (by kernel_rfl) (Nat.le_of_ble_eq_true rfl) rfl ?_)))
              refine G_nil ?_
              refine kC_normal ?_
              refine k_seq ?_
              refine k_reg .free hmixP (by kernel_rfl) ?_
              refine G_q rfl (op_move (av := .exact (.int .i64 25)) rfl ?_)
              refine G_q rfl (op_assign (av := .exact (.int .i64 25)) rfl ?_)
              refine G_nil ?_
              refine kC_normal ?_
              refine k_ret ?_
              refine kP_any (endN (af' := (AF.put AF0 (some 6) (.exact (.int .i64 25)))) (σ' := [boxI 81 b [.exact (.int .i64 ((dkWr D).cap)), .exact (.map (some nb)), .exact (.map (some db)), .exact pv', .exact (.int .i64 ((dkWr D).wr)), .exact (.int .i64 ((dkWr D).fl)), .exact (.bool ((dkWr D).dn))], dM (hb ++ [fb]) nb (dkPf ([], s, (Z.length : Int)) D.names), dM (hb ++ [fb]) db D.dur, dP (hb ++ [fb]) pv' (D.pend ++ [([], s, (Z.length : Int))]), dH (hb ++ [fb]) ((Z ++ [z0]).set ((Z.length : Int)).toNat (v', (gi (Z ++ [z0]) (Z.length : Int)).2.1 ++ (y.take (y.length / 2)), (gi (Z ++ [z0]) (Z.length : Int)).2.2)), dVs ((Z ++ [z0]).set ((Z.length : Int)).toNat (v', (gi (Z ++ [z0]) (Z.length : Int)).2.1 ++ (y.take (y.length / 2)), (gi (Z ++ [z0]) (Z.length : Int)).2.2))]) _ rfl (SubU.to (SubU.trans SubU.f2 (SubU.trans SubU.f2 (SubU.trans (SubU.putG (f := dV) (x := (v', (gi (Z ++ [z0]) (Z.length : Int)).2.1 ++ (y.take (y.length / 2)), (gi (Z ++ [z0]) (Z.length : Int)).2.2)) hz.1 hz.2) (SubU.trans SubU.f1 (SubU.trans SubU.f4 (SubU.trans SubU.f5 (SubU.trans SubU.f5 (SubU.trans SubU.f5 (SubU.of_le (AF.le_put (AV.le_eq rfl) (AF.le_top _)))))))))))) ?_)
              refine ⟨hb ++ [fb], db, pv', (Z ++ [z0]).set ((Z.length : Int)).toNat (v', (gi (Z ++ [z0]) (Z.length : Int)).2.1 ++ (y.take (y.length / 2)), (gi (Z ++ [z0]) (Z.length : Int)).2.2), ?_, rfl, ?_⟩
              · dsimp only; rw [hZ, dk_newf]
              · unfold dIts; dsimp only; rw [dk_pfn (by omega), hZ, List.length_map]; rfl
            · refine k_skip ?_
              refine kC_normal ?_
              refine k_seq ?_
              refine k_seq ?_
              have hby : dkBy D y = (y, 0) := by unfold dkBy; rw [if_neg (by simpa using hc7)]
              rw [hby] at h
              rw [if_pos hc3] at h
              obtain ⟨hpl, h⟩ := need_some h
              cases h
              refine k_reg .free hmixP (by kernel_rfl) ?_
              refine G_q rfl (op_move (av := refA hb ((lookL D.names s).getD (-1))) rfl ?_)
              refine G_q rfl (op_eqnil_ref (t := 87) (by kernel_rfl) (by kernel_rfl) rfl rfl ?_)
              refine G_nil ?_
              refine kC_normal ?_
              refine k_cond_d (p := ((lookL D.names s).getD (-1)) = -1) rfl (fun _ => ?_) (fun hc9 => absurd hc3 hc9)
              refine k_seq ?_
              refine k_reg .free hmixP (by kernel_rfl) ?_
              refine G_q rfl (op_bld (c' := [.exact (.slice none 0 0), .exact (.int .i64 0)]) CellsAll.nil rfl (LEs.cons (AV.le_eq rfl) (LEs.cons (AV.le_eq rfl) LEs.nil)) ?_)
              refine G_l rfl (op_boxI (c := [.exact (.slice none 0 0), .exact (.int .i64 0)]) rfl CellsOf.agg (LEs.cons (AV.le_eq rfl) (LEs.cons (AV.le_eq rfl) LEs.nil)) (fun fb => ?_))
              refine G_q rfl (op_assign (av := pA fb 0) rfl ?_)
              refine G_nil ?_
              refine kC_normal ?_
              refine k_reg .free hmixP (by kernel_rfl) ?_
              refine G_sub rfl (SubU.trans SubU.f3 (SubU.trans SubU.f1 (SubU.trans (SubU.addHeap (s := 7) (x := z0) (enc' := fEnc) rfl (LEs.cons (AV.le_eq rfl) (LEs.cons (AV.le_eq rfl) LEs.nil)) (fun _ => (LEs.cons (AV.le_eq rfl) (LEs.cons (AV.le_eq rfl) LEs.nil)))) (SubU.trans SubU.f2 (SubU.trans (SubU.mapLe (vv' := fun x : Int => refA (hb ++ [fb]) x) (fun _ => refA_mono)) (SubU.trans SubU.f4 (SubU.trans (SubU.mapLe (vv' := fun x : Int => refA (hb ++ [fb]) x) (fun _ => refA_mono)) (SubU.trans SubU.f5 (SubU.trans (SubU.vecLe (enc' := opE (hb ++ [fb])) (fun _ => LEs.cons (AV.le_eq rfl) (LEs.cons (AV.le_eq rfl) (LEs.cons refA_mono LEs.nil)))) (SubU.trans SubU.f5 ((SubU.addNil (f := dV) (x := z0) dV_own dV_nil)))))))))))) ?_
              refine G_q rfl (op_move (av := pA b 0) rfl ?_)
              refine G_q rfl (op_move (av := .exact (.string (bs s))) rfl ?_)
              refine G_q rfl (op_move (av := refA (hb ++ [fb]) (Z.length : Int)) rfl ?_)
              refine G_q rfl (op_bld (c' := [.exact (.string (bs [])), .exact (.string (bs s)), refA (hb ++ [fb]) (Z.length : Int)]) (CellsAll.cons rfl CellsOf.str (CellsAll.cons rfl CellsOf.ref CellsAll.nil)) rfl (LEs.cons (AV.le_eq rfl) (LEs.cons (AV.le_eq rfl) (LEs.cons (AV.le_eq rfl) LEs.nil))) ?_)
              refine G_l rfl (opB_f1 (opB_f3 (opB_f5 (op_fun_3_1_3 (dk_change [] s (Z.length : Int) (dkWr D) hpl) Try.func57 (by kernel_rfl) (LEs.cons (AV.le_eq rfl) (LEs.cons (AV.le_eq rfl) LEs.nil)) (fun pv' => ?_)))))
              refine G_nil ?_
              refine kC_normal ?_
              refine k_seq ?_
              refine k_reg .free hmixP (by kernel_rfl) ?_
              have hz : 0 ≤ (Z.length : Int) ∧ (Z.length : Int) < (((Z ++ [z0]).length : Nat) : Int) := by rw [List.length_append, List.length_singleton]; omega
              refine G_sub rfl (SubU.trans SubU.f3 (SubU.takeG (f := dV) hz.1 hz.2)) ?_
              refine G_q rfl (op_move (av := refA (hb ++ [fb]) (Z.length : Int)) rfl ?_)
              refine G_q rfl (op_move (av := refA (hb ++ [fb]) (Z.length : Int)) rfl ?_)
              refine G_q rfl (op_nilC_ref rfl (by omega) ?_)
              refine G_q rfl (op_field_hpt (o := 0) (by kernel_rfl) rfl ?_)
              refine G_r rfl (op_load_hpt (t := 87) (enc := fEnc) (H := (Z ++ [z0])) (a := .exact (gi (Z ++ [z0]) (Z.length : Int)).1) (List.Mem.tail _ (List.Mem.tail _ (List.Mem.tail _ (List.Mem.tail _ (List.Mem.tail _ (List.Mem.tail _ (List.Mem.head _))))))) (by kernel_rfl) rfl rfl ?_)
              refine G_q rfl (op_move (av := .row 1 cU8 y) rfl ?_)
              refine G_l rfl (op_appT (by kernel_rfl) rfl rfl dk_ocU8 (by show _ ≤ 137438953472; rw [dk_gil]; simp; omega) (fun v' => ?_))
              refine G_q rfl (op_nilC_ref rfl (by omega) ?_)
              refine G_q rfl (op_field_hpt (o := 0) (by kernel_rfl) rfl ?_)
              refine G_l rfl (opB_sl (List.Mem.head _) (fun hsl => opB_f6 (op_store_hpt (i := (Z.length : Int)) (o := 0) (z := (v', (gi (Z ++ [z0]) (Z.length : Int)).2.1 ++ y, (gi (Z ++ [z0]) (Z.length : Int)).2.2)) (c' := [.exact v']) rfl rfl (CellsOf.sl hsl) (LEs.cons (AV.le_eq rfl) LEs.nil) (OneC.sl hsl OneC.nil) (by kernel_rfl) (Nat.le_of_ble_eq_true rfl) rfl ?_)))
              refine G_nil ?_
              refine kC_normal ?_
              refine k_seq ?_
              refine k_reg .free hmixP (by kernel_rfl) ?_
              refine G_q rfl (op_move (av := .exact (.int .i64 0)) rfl ?_)
              refine G_q rfl (op_assign (av := .exact (.int .i64 0)) rfl ?_)
              refine G_nil ?_
              refine kC_normal ?_
              refine k_ret ?_
              refine kP_any (endN (af' := (AF.put AF0 (some 6) (.exact (.int .i64 0)))) (σ' := [boxI 81 b [.exact (.int .i64 ((dkWr D).cap)), .exact (.map (some nb)), .exact (.map (some db)), .exact pv', .exact (.int .i64 ((dkWr D).wr)), .exact (.int .i64 ((dkWr D).fl)), .exact (.bool ((dkWr D).dn))], dM (hb ++ [fb]) nb (dkPf ([], s, (Z.length : Int)) D.names), dM (hb ++ [fb]) db D.dur, dP (hb ++ [fb]) pv' (D.pend ++ [([], s, (Z.length : Int))]), dH (hb ++ [fb]) ((Z ++ [z0]).set ((Z.length : Int)).toNat (v', (gi (Z ++ [z0]) (Z.length : Int)).2.1 ++ y, (gi (Z ++ [z0]) (Z.length : Int)).2.2)), dVs ((Z ++ [z0]).set ((Z.length : Int)).toNat (v', (gi (Z ++ [z0]) (Z.length : Int)).2.1 ++ y, (gi (Z ++ [z0]) (Z.length : Int)).2.2))]) _ rfl (SubU.to (SubU.trans SubU.f2 (SubU.trans SubU.f2 (SubU.trans (SubU.putG (f := dV) (x := (v', (gi (Z ++ [z0]) (Z.length : Int)).2.1 ++ y, (gi (Z ++ [z0]) (Z.length : Int)).2.2)) hz.1 hz.2) (SubU.trans SubU.f1 (SubU.trans SubU.f4 (SubU.trans SubU.f5 (SubU.trans SubU.f5 (SubU.trans SubU.f5 (SubU.of_le (AF.le_put (AV.le_eq rfl) (AF.le_top _)))))))))))) ?_)
              refine ⟨hb ++ [fb], db, pv', (Z ++ [z0]).set ((Z.length : Int)).toNat (v', (gi (Z ++ [z0]) (Z.length : Int)).2.1 ++ y, (gi (Z ++ [z0]) (Z.length : Int)).2.2), ?_, rfl, ?_⟩
              · dsimp only; rw [hZ, dk_newf]
              · unfold dIts; dsimp only; rw [dk_pfn (by omega), hZ, List.length_map]; rfl
      · refine G_n rfl rfl ?_
        refine G_n rfl rfl ?_
        refine G_n rfl rfl ?_
        refine G_n rfl rfl ?_
        refine G_n rfl rfl ?_
        refine G_n rfl rfl ?_
        refine G_q rfl (op_pick_f rfl (av := .exact (.bool false)) rfl ?_)
        refine G_q rfl (op_assign (av := .exact (.bool false)) rfl ?_)
        refine G_nil ?_
        refine kC_normal ?_
        refine k_cond_f rfl ?_
        rw [if_neg hc1, if_neg hc2, if_neg (by omega)] at h
        obtain ⟨u, hu, h⟩ := bnd1_some h
        refine k_plan [dB b nb db pv D] [(0, 0), (0, 1), (0, 2), (0, 3), (0, 4), (4, 5), (0, 6), (3, 7), (0, 8), (0, 9), (0, 10)] hmixP (by kernel_rfl) ?_
        refine P_q no34_0 rfl (op_move (av := .row 1 cU8 y) rfl ?_)
        refine P_q no34_0 rfl (op_len_row (by kernel_rfl) rfl ?_)
        refine P_q no34_0 rfl (op_move (av := pA b 0) rfl ?_)
        refine P_q no34_0 rfl (op_nilCheck rfl ?_)
        refine P_q no34_0 rfl (op_fieldAddr (o := 0) (by kernel_rfl) rfl ?_)
        refine P_r4 (Has.cons (List.Mem.head _) Has.mk0) rfl (opI_mk (List.Mem.head _) (fun _ => op_load_box1 (a := .exact (.int .i64 D.cap)) (by kernel_rfl) rfl rfl rfl) ?_)
        refine P_q no34_0 rfl (op_move (av := pA b 0) rfl ?_)
        refine P_l3 rfl (opB_f5 (opB_f5 (opB_f3 (opB_f3 (op_fun_4_0_4 (dk_used D hZ u hu) Try.func55 (by kernel_rfl) (LEs.cons (AV.le_eq rfl) LEs.nil) ⟨Has.cons (List.Mem.head _) Has.mk0, ?_⟩)))))
        refine P_q no34_0 rfl (op_sub rfl rfl rfl ?_)
        refine P_q no34_0 rfl (op_gtr rfl rfl ?_)
        refine P_q no34_0 rfl (op_assign (av := .exact (.bool (decide ((i64 (D.cap - u)) < (List.length y : Int))))) rfl ?_)
        refine P_nil ?_
        refine kC_normal ?_
        refine k_cond_d (p := (i64 (D.cap - u)) < (List.length y : Int)) rfl (fun hc11 => ?_) (fun hc11 => ?_)
        · refine k_seq ?_
          refine k_reg .free hmixP (by kernel_rfl) ?_
          refine G_q rfl (op_assign (av := .exact (.int .i64 10)) rfl ?_)
          refine G_nil ?_
          refine kC_normal ?_
          refine k_ret ?_
          refine kB_ret ?_
          refine kC_ret ?_
          rw [if_pos hc11] at h
          cases h
          refine kP_any (endN (af' := (AF.put AF0 (some 6) (.exact (.int .i64 10)))) (σ' := [boxI 81 b [.exact (.int .i64 D.cap), .exact (.map (some nb)), .exact (.map (some db)), .exact pv, .exact (.int .i64 D.wr), .exact (.int .i64 D.fl), .exact (.bool D.dn)], dM hb nb D.names, dM hb db D.dur, dP hb pv D.pend, dH hb Z, dVs Z]) _ rfl (SubU.to (SubU.trans SubU.f3 (SubU.trans SubU.f3 (SubU.trans SubU.f5 (SubU.trans SubU.f5 (SubU.trans SubU.f5 (SubU.trans SubU.f5 (SubU.of_le (AF.le_put (AV.le_eq rfl) (AF.le_top _)))))))))) ?_)
          exact ⟨hb, db, pv, Z, hZ, rfl, rfl⟩
        · refine k_skip ?_
          refine kB_normal ?_
          refine kC_normal ?_
          refine k_seq ?_
          rw [if_neg hc11] at h
          obtain ⟨hy, h⟩ := need_some h
          refine k_reg .free hmixP (by kernel_rfl) ?_
          refine G_q rfl (op_assign (av := .exact (.int .i64 0)) rfl ?_)
          refine G_nil ?_
          refine kC_normal ?_
          refine k_seq ?_
          refine k_seq ?_
          refine k_reg .free hmixP (by kernel_rfl) ?_
          refine G_q rfl (op_move (av := pA b 0) rfl ?_)
          refine G_l rfl (op_fun_1_0_1 (dk_write D) Try.func56 (by kernel_rfl) (LEs.cons (AV.le_eq rfl) LEs.nil) ?_)
          refine G_q rfl (op_not rfl ?_)
          refine G_nil ?_
          refine kC_normal ?_
          refine k_cond_b (c := !(!(dkWr D).dn)) rfl (fun hc12 => ?_) (fun hc12 => ?_)
          · refine k_reg .free hmixP (by kernel_rfl) ?_
            refine G_q rfl (op_move (av := .row 1 cU8 y) rfl ?_)
            refine G_q rfl (op_move (av := .row 1 cU8 y) rfl ?_)
            refine G_q rfl (op_len_row (by kernel_rfl) rfl ?_)
            refine G_q rfl (op_quo rfl rfl (by decide) (dk_half hy) ?_)
            refine G_q rfl (op_slice_rowt (by kernel_rfl) rfl bnd_none (bnd_some rfl) (Int.le_refl _) (by omega) (by omega) ?_)
            refine G_q rfl (op_assign (av := .row 1 cU8 (y.take (y.length / 2))) rfl ?_)
            refine G_q rfl (op_assign (av := .exact (.int .i64 25)) rfl ?_)
            refine G_nil ?_
            refine kC_normal ?_
            refine k_seq ?_
            refine k_seq ?_
            have hby : dkBy D y = (y.take (y.length / 2), 25) := by unfold dkBy; rw [if_pos (by simpa using hc12)]
            rw [hby] at h
            rw [if_neg hc3] at h
            obtain ⟨n1, h⟩ := need_some h
            have hr : 0 ≤ (lookL D.names s).getD (-1) ∧ (lookL D.names s).getD (-1) < (Z.length : Int) := by rw [hZ, List.length_map] at n1; exact n1
            obtain ⟨n2, h⟩ := need_some h
            rw [hZ, gi_map hr.1 hr.2] at n2
            cases h
            refine k_reg .free hmixP (by kernel_rfl) ?_
            refine G_q rfl (op_move (av := refA hb ((lookL D.names s).getD (-1))) rfl ?_)
            refine G_q rfl (op_eqnil_ref (t := 87) (by kernel_rfl) (by kernel_rfl) rfl rfl ?_)
            refine G_nil ?_
            refine kC_normal ?_
            refine k_cond_d (p := ((lookL D.names s).getD (-1)) = -1) rfl (fun hc13 => absurd hc13 hc3) (fun _ => ?_)
            refine k_skip ?_
            refine kC_normal ?_
            refine k_seq ?_
            refine k_reg .free hmixP (by kernel_rfl) ?_
            refine G_sub rfl (SubU.trans SubU.f3 (SubU.takeG (f := dV) hr.1 hr.2)) ?_
            refine G_q rfl (op_move (av := refA hb ((lookL D.names s).getD (-1))) rfl ?_)
            refine G_q rfl (op_move (av := refA hb ((lookL D.names s).getD (-1))) rfl ?_)
            refine G_q rfl (op_nilC_ref rfl (by omega) ?_)
            refine G_q rfl (op_field_hpt (o := 0) (by kernel_rfl) rfl ?_)
            refine G_r rfl (op_load_hpt (t := 87) (enc := fEnc) (H := Z) (a := .exact (gi Z ((lookL D.names s).getD (-1))).1) (List.Mem.tail _ (List.Mem.tail _ (List.Mem.tail _ (List.Mem.tail _ (List.Mem.head _))))) (by kernel_rfl) rfl rfl ?_)
            refine G_q rfl (op_move (av := .row 1 cU8 (y.take (y.length / 2))) rfl ?_)
            refine G_l rfl (op_appT (by kernel_rfl) rfl rfl dk_ocU8 (by show _ ≤ 137438953472; exact n2) (fun v' => ?_))
            refine G_q rfl (op_nilC_ref rfl (by omega) ?_)
            refine G_q rfl (op_field_hpt (o := 0) (by kernel_rfl) rfl ?_)
            refine G_l rfl (opB_sl (List.Mem.head _) (fun hsl => opB_f4 (op_store_hpt (i := ((lookL D.names s).getD (-1))) (o := 0) (z := (v', (gi Z ((lookL D.names s).getD (-1))).2.1 ++ (y.take (y.length / 2)), (gi Z ((lookL D.names s).getD (-1))).2.2)) (c' := [.exact v']) rfl rfl (CellsOf.sl hsl) (LEs.cons (AV.le_eq rfl) LEs.nil) (OneC.sl hsl OneC.nil) (by kernel_rfl) (Nat.le_of_ble_eq_true rfl) rfl ?_)))
            refine G_nil ?_
            refine kC_normal ?_
            refine k_seq ?_
            refine k_reg .free hmixP (by kernel_rfl) ?_
            refine G_q rfl (op_move (av := .exact (.int .i64 25)) rfl ?_)
            refine G_q rfl (op_assign (av := .exact (.int .i64 25)) rfl ?_)
            refine G_nil ?_
            refine kC_normal ?_
            refine k_ret ?_
            refine kP_any (endN (af' := (AF.put AF0 (some 6) (.exact (.int .i64 25)))) (σ' := [boxI 81 b [.exact (.int .i64 ((dkWr D).cap)), .exact (.map (some nb)), .exact (.map (some db)), .exact pv, .exact (.int .i64 ((dkWr D).wr)), .exact (.int .i64 ((dkWr D).fl)), .exact (.bool ((dkWr D).dn))], dM hb nb D.names, dM hb db D.dur, dP hb pv D.pend, dH hb (Z.set (((lookL D.names s).getD (-1))).toNat (v', (gi Z ((lookL D.names s).getD (-1))).2.1 ++ (y.take (y.length / 2)), (gi Z ((lookL D.names s).getD (-1))).2.2)), dVs (Z.set (((lookL D.names s).getD (-1))).toNat (v', (gi Z ((lookL D.names s).getD (-1))).2.1 ++ (y.take (y.length / 2)), (gi Z ((lookL D.names s).getD (-1))).2.2))]) _ rfl (SubU.to (SubU.trans SubU.f2 (SubU.trans SubU.f2 (SubU.trans (SubU.putG (f := dV) (x := (v', (gi Z ((lookL D.names s).getD (-1))).2.1 ++ (y.take (y.length / 2)), (gi Z ((lookL D.names s).getD (-1))).2.2)) hr.1 hr.2) (SubU.trans SubU.f1 (SubU.trans SubU.f5 (SubU.trans SubU.f5 (SubU.trans SubU.f5 (SubU.trans SubU.f5 (SubU.of_le (AF.le_put (AV.le_eq rfl) (AF.le_top _)))))))))))) ?_)
            refine ⟨hb, db, pv, Z.set (((lookL D.names s).getD (-1))).toNat (v', (gi Z ((lookL D.names s).getD (-1))).2.1 ++ (y.take (y.length / 2)), (gi Z ((lookL D.names s).getD (-1))).2.2), ?_, rfl, rfl⟩
            dsimp only; rw [hZ, List.map_set, gi_map hr.1 hr.2]
          · refine k_skip ?_
            refine kC_normal ?_
            refine k_seq ?_
            refine k_seq ?_
            have hby : dkBy D y = (y, 0) := by unfold dkBy; rw [if_neg (by simpa using hc12)]
            rw [hby] at h
            rw [if_neg hc3] at h
            obtain ⟨n1, h⟩ := need_some h
            have hr : 0 ≤ (lookL D.names s).getD (-1) ∧ (lookL D.names s).getD (-1) < (Z.length : Int) := by rw [hZ, List.length_map] at n1; exact n1
            obtain ⟨n2, h⟩ := need_some h
            rw [hZ, gi_map hr.1 hr.2] at n2
            cases h
            refine k_reg .free hmixP (by kernel_rfl) ?_
            refine G_q rfl (op_move (av := refA hb ((lookL D.names s).getD (-1))) rfl ?_)
            refine G_q rfl (op_eqnil_ref (t := 87) (by kernel_rfl) (by kernel_rfl) rfl rfl ?_)
            refine G_nil ?_
            refine kC_normal ?_
            refine k_cond_d (p := ((lookL D.names s).getD (-1)) = -1) rfl (fun hc14 => absurd hc14 hc3) (fun _ => ?_)
            refine k_skip ?_
            refine kC_normal ?_
            refine k_seq ?_
            refine k_reg .free hmixP (by kernel_rfl) ?_
            refine G_sub rfl (SubU.trans SubU.f3 (SubU.takeG (f := dV) hr.1 hr.2)) ?_
            refine G_q rfl (op_move (av := refA hb ((lookL D.names s).getD (-1))) rfl ?_)
            refine G_q rfl (op_move (av := refA hb ((lookL D.names s).getD (-1))) rfl ?_)
            refine G_q rfl (op_nilC_ref rfl (by omega) ?_)
            refine G_q rfl (op_field_hpt (o := 0) (by kernel_rfl) rfl ?_)
            refine G_r rfl (op_load_hpt (t := 87) (enc := fEnc) (H := Z) (a := .exact (gi Z ((lookL D.names s).getD (-1))).1) (List.Mem.tail _ (List.Mem.tail _ (List.Mem.tail _ (List.Mem.tail _ (List.Mem.head _))))) (by kernel_rfl) rfl rfl ?_)
            refine G_q rfl (op_move (av := .row 1 cU8 y) rfl ?_)
            refine G_l rfl (op_appT (by kernel_rfl) rfl rfl dk_ocU8 (by show _ ≤ 137438953472; exact n2) (fun v' => ?_))
            refine G_q rfl (op_nilC_ref rfl (by omega) ?_)
            refine G_q rfl (op_field_hpt (o := 0) (by kernel_rfl) rfl ?_)
            refine G_l rfl (opB_sl (List.Mem.head _) (fun hsl => opB_f4 (op_store_hpt (i := ((lookL D.names s).getD (-1))) (o := 0) (z := (v', (gi Z ((lookL D.names s).getD (-1))).2.1 ++ y, (gi Z ((lookL D.names s).getD (-1))).2.2)) (c' := [.exact v']) rfl rfl (CellsOf.sl hsl) (LEs.cons (AV.le_eq rfl) LEs.nil) (OneC.sl hsl OneC.nil) (by kernel_rfl) (Nat.le_of_ble_eq_true rfl) rfl ?_)))
            refine G_nil ?_
            refine kC_normal ?_
            refine k_seq ?_
            refine k_reg .free hmixP (by kernel_rfl) ?_
            refine G_q rfl (op_move (av := .exact (.int .i64 0)) rfl ?_)
            refine G_q rfl (op_assign (av := .exact (.int .i64 0)) rfl ?_)
            refine G_nil ?_
            refine kC_normal ?_
            refine k_ret ?_
            refine kP_any (endN (af' := (AF.put AF0 (some 6) (.exact (.int .i64 0)))) (σ' := [boxI 81 b [.exact (.int .i64 ((dkWr D).cap)), .exact (.map (some nb)), .exact (.map (some db)), .exact pv, .exact (.int .i64 ((dkWr D).wr)), .exact (.int .i64 ((dkWr D).fl)), .exact (.bool ((dkWr D).dn))], dM hb nb D.names, dM hb db D.dur, dP hb pv D.pend, dH hb (Z.set (((lookL D.names s).getD (-1))).toNat (v', (gi Z ((lookL D.names s).getD (-1))).2.1 ++ y, (gi Z ((lookL D.names s).getD (-1))).2.2)), dVs (Z.set (((lookL D.names s).getD (-1))).toNat (v', (gi Z ((lookL D.names s).getD (-1))).2.1 ++ y, (gi Z ((lookL D.names s).getD (-1))).2.2))]) _ rfl (SubU.to (SubU.trans SubU.f2 (SubU.trans SubU.f2 (SubU.trans (SubU.putG (f := dV) (x := (v', (gi Z ((lookL D.names s).getD (-1))).2.1 ++ y, (gi Z ((lookL D.names s).getD (-1))).2.2)) hr.1 hr.2) (SubU.trans SubU.f1 (SubU.trans SubU.f5 (SubU.trans SubU.f5 (SubU.trans SubU.f5 (SubU.trans SubU.f5 (SubU.of_le (AF.le_put (AV.le_eq rfl) (AF.le_top _)))))))))))) ?_)
            refine ⟨hb, db, pv, Z.set (((lookL D.names s).getD (-1))).toNat (v', (gi Z ((lookL D.names s).getD (-1))).2.1 ++ y, (gi Z ((lookL D.names s).getD (-1))).2.2), ?_, rfl, rfl⟩
            dsimp only; rw [hZ, List.map_set, gi_map hr.1 hr.2]
set_option maxHeartbeats 4000000 in
theorem dk_new (a : Int) (ha : 0 ≤ a ∧ a ≤ 4194304) : Fun Try.prog 21 [.exact (.int .i64 a)] [] (fun r σ => ∃ b nb db, r = .tup [pA b 0, .exact (.int .i64 0)] ∧ σ = dIts [] b nb db (.slice none 0 0) ⟨a, [], [], [], [], 0, 0, false⟩ []) := by
  refine fun_of_awp Try.func21 rfl Try.ntmps21 (by simp) rfl (res2 rfl) fun E hE => k_end ?_
  refine k_seq ?_
  refine k_reg .free hmixP (by kernel_rfl) ?_
  refine G_q rfl (op_assign (av := .exact (.pointer none)) rfl ?_)
  refine G_q rfl (op_assign (av := .exact (.int .i64 0)) rfl ?_)
  refine G_nil ?_
  refine kC_normal ?_
  refine k_seq ?_
  refine k_seq ?_
  refine k_reg .free hmixP (by kernel_rfl) ?_
  refine G_q rfl (op_move (av := .exact (.int .i64 a)) rfl ?_)
  refine G_q rfl (op_lss rfl rfl ?_)
  refine G_q rfl (op_move (av := .exact (.bool (decide (a < 0)))) rfl ?_)
  refine G_split (p := a < 0) 6 rfl (fun hc1 => ?_) (fun hc1 => ?_)
  · refine G_n rfl rfl ?_
    refine G_n rfl rfl ?_
    refine G_q rfl (op_pick_t rfl (av := .exact (.bool true)) rfl ?_)
    refine G_nil ?_
    refine kC_normal ?_
    refine k_cond_t rfl ?_
    refine k_seq ?_
    refine k_reg .free hmixP (by kernel_rfl) ?_
    refine G_q rfl (op_assign (av := .exact (.pointer none)) rfl ?_)
    refine G_q rfl (op_assign (av := .exact (.int .i64 1)) rfl ?_)
    refine G_nil ?_
    refine kC_normal ?_
    refine k_ret ?_
    refine kC_ret ?_
    exfalso; omega
  · refine Gy_q rfl rfl rfl (op_move (av := .exact (.int .i64 a)) rfl ?_)
    refine Gy_q rfl rfl rfl (op_gtr rfl rfl ?_)
    refine G_q rfl (op_pick_f rfl (av := .exact (.bool (decide (4194304 < a)))) rfl ?_)
    refine G_nil ?_
    refine kC_normal ?_
    refine k_cond_d (p := 4194304 < a) rfl (fun hc3 => ?_) (fun hc3 => ?_)
    · refine k_seq ?_
      refine k_reg .free hmixP (by kernel_rfl) ?_
      refine G_q rfl (op_assign (av := .exact (.pointer none)) rfl ?_)
      refine G_q rfl (op_assign (av := .exact (.int .i64 1)) rfl ?_)
      refine G_nil ?_
      refine kC_normal ?_
      refine k_ret ?_
      refine kC_ret ?_
      exfalso; omega
    · refine k_skip ?_
      refine kC_normal ?_
      refine k_seq ?_
      refine k_reg .free hmixP (by kernel_rfl) ?_
      refine G_q rfl (op_move (av := .exact (.int .i64 a)) rfl ?_)
      refine G_l rfl (op_mnew (V := (fun _ => True)) (kv := (fun k : List UInt8 => .string (bs k))) (vv := (fun x : Int => refA [] x)) (fun nb => ?_))
      refine G_l rfl (op_mnew (V := (fun _ => True)) (kv := (fun k : List UInt8 => .string (bs k))) (vv := (fun x : Int => refA [] x)) (fun db => ?_))
      refine G_q rfl (op_bld (c' := [.exact (.int .i64 a), .exact (.map (some nb)), .exact (.map (some db)), .exact (.slice none 0 0), .exact (.int .i64 0), .exact (.int .i64 0), .exact (.bool false)]) (CellsAll.cons rfl CellsOf.int (CellsAll.cons rfl CellsOf.mapz (CellsAll.cons rfl CellsOf.mapz CellsAll.nil))) rfl (LEs.cons (AV.le_eq rfl) (LEs.cons (AV.le_eq rfl) (LEs.cons (AV.le_eq rfl) (LEs.cons (AV.le_eq rfl) (LEs.cons (AV.le_eq rfl) (LEs.cons (AV.le_eq rfl) (LEs.cons (AV.le_eq rfl) LEs.nil))))))) ?_)
      refine G_l rfl (op_boxI (c := [.exact (.int .i64 a), .exact (.map (some nb)), .exact (.map (some db)), .exact (.slice none 0 0), .exact (.int .i64 0), .exact (.int .i64 0), .exact (.bool false)]) rfl CellsOf.agg (LEs.cons (AV.le_eq rfl) (LEs.cons (AV.le_eq rfl) (LEs.cons (AV.le_eq rfl) (LEs.cons (AV.le_eq rfl) (LEs.cons (AV.le_eq rfl) (LEs.cons (AV.le_eq rfl) (LEs.cons (AV.le_eq rfl) LEs.nil))))))) (fun b => ?_))
      refine G_q rfl (op_assign (av := pA b 0) rfl ?_)
      refine G_q rfl (op_assign (av := .exact (.int .i64 0)) rfl ?_)
      refine G_nil ?_
      refine kC_normal ?_
      refine k_ret ?_
      refine kP_any (endN (af' := (AF.put (AF.put AF0 (some 2) (pA b 0)) (some 3) (.exact (.int .i64 0)))) (σ' := [boxI 81 b [.exact (.int .i64 a), .exact (.map (some nb)), .exact (.map (some db)), .exact (.slice none 0 0), .exact (.int .i64 0), .exact (.int .i64 0), .exact (.bool false)], dM [] nb [], dM [] db [], dP [] (.slice none 0 0) [], dH [] [], dVs []]) _ rfl (SubU.to (SubU.trans SubU.f1 (SubU.trans SubU.f2 (SubU.trans SubU.f2 (SubU.trans (SubU.nilT (P := Try.prog) (t := 79) (n := 3) (enc := opE [])) (SubU.trans (SubU.newHeap (α := DkZ) (t := 87) (enc := fEnc) (bs := []) rfl) (SubU.trans SubU.newVs (SubU.trans SubU.f1 (SubU.trans SubU.f2 (SubU.trans SubU.f5 (SubU.trans SubU.f5 (SubU.trans SubU.f5 (SubU.of_le (AF.le_put (AV.le_eq rfl) (AF.le_put (AV.le_eq rfl) (AF.le_top _)))))))))))))))) ?_)
      exact ⟨b, nb, db, rfl, rfl⟩
set_option maxHeartbeats 4000000 in
theorem dk_writes {b nb db : Nat} {pv : Value} (D : Dk) : Fun Try.prog 32 [pA b 0] [dB b nb db pv D] (fun a s => a = .exact (.int .i64 D.wr) ∧ s = [dB b nb db pv D]) := by
  refine fun_of_awp Try.func32 rfl Try.ntmps32 (by simp) rfl (res1 rfl) fun E hE => k_end ?_
  refine k_seq ?_
  refine k_reg .free hmixP (by kernel_rfl) ?_
  refine G_q rfl (op_assign (av := .exact (.int .i64 0)) rfl ?_)
  refine G_nil ?_
  refine kC_normal ?_
  refine k_seq ?_
  refine k_reg .free hmixP (by kernel_rfl) ?_
  refine G_q rfl (op_move (av := pA b 0) rfl ?_)
  refine G_q rfl (op_nilCheck rfl ?_)
  refine G_q rfl (op_fieldAddr (o := 4) (by kernel_rfl) rfl ?_)
  refine G_r rfl (op_load_box1 (a := .exact (.int .i64 D.wr)) (by kernel_rfl) rfl rfl ?_)
  refine G_q rfl (op_assign (av := .exact (.int .i64 D.wr)) rfl ?_)
  refine G_nil ?_
  refine kC_normal ?_
  refine k_ret ?_
  refine kP_any (endN (af' := (AF.put AF0 (some 2) (.exact (.int .i64 D.wr)))) (σ' := [boxI 81 b [.exact (.int .i64 D.cap), .exact (.map (some nb)), .exact (.map (some db)), .exact pv, .exact (.int .i64 D.wr), .exact (.int .i64 D.fl), .exact (.bool D.dn)]]) _ rfl (Sub.of_le (AF.le_put (AV.le_eq rfl) (AF.le_top _))) ?_)
  exact ⟨rfl, rfl⟩
end Go.Proofs.Ytkplmgdmkfgjhaa
/- A disk as one thing in use. -/
namespace Go.Proofs.Ytkplmgdmkfgjhaa
open Go.RowKit Go.Maps
theorem dsk_operm {σ σ' : Items} (ho : (σ'.flatMap Item.own).Perm (σ.flatMap Item.own)) (k : Nat) : Items.own σ' k ↔ Items.own σ k := ho.mem_iff
/-- The disk at block b, which owns the blocks o besides. -/
def dskI (b : Nat) (o : List Nat) (D : Dk) : Item where
  own := b :: o
  p := fun M w => ∃ (hb : List Nat) (nb db : Nat) (pv : Value) (Z : List DkZ), D.files = Z.map (·.2) ∧ b :: o = (dIts hb b nb db pv D Z).flatMap Item.own ∧ ∀ it ∈ dIts hb b nb db pv D Z, it.p M w
  keep := fun {M M' w w'} hk hm ⟨hb, nb, db, pv, Z, h1, h2, h3⟩ => ⟨hb, nb, db, pv, Z, h1, h2, fun it hi => it.keep (hk.mono (fun k _ h => ⟨h.1, fun hn => h.2 (by rw [h2]; exact List.mem_flatMap.2 ⟨it, hi, hn⟩)⟩)) hm (h3 it hi)⟩
theorem dsk_own {hb : List Nat} {b nb db : Nat} {pv : Value} {D : Dk} {Z : List DkZ} : (dIts hb b nb db pv D Z).flatMap Item.own = b :: ([dM hb nb D.names, dM hb db D.dur, dP hb pv D.pend, dH hb Z, dVs Z] : Items).flatMap Item.own := rfl
theorem Good.dsk {F : BSet} {w : World} {hb : List Nat} {b nb db : Nat} {pv : Value} {D : Dk} {Z : List DkZ} (hZ : D.files = Z.map (·.2)) (h : Good F (dIts hb b nb db pv D Z) w) : ∃ o, Good F [dskI b o D] w ∧ ([dskI b o D].flatMap Item.own).Perm ((dIts hb b nb db pv D Z).flatMap Item.own) := by
  have hp : ([dskI b (([dM hb nb D.names, dM hb db D.dur, dP hb pv D.pend, dH hb Z, dVs Z] : Items).flatMap Item.own) D].flatMap Item.own).Perm ((dIts hb b nb db pv D Z).flatMap Item.own) := by
    rw [dsk_own, List.flatMap_cons, List.flatMap_nil, List.append_nil]; exact .refl _
  exact ⟨_, h.repack hp (fun M hi it hit => by
    rw [List.mem_singleton.1 hit]
    exact ⟨hb, nb, db, pv, Z, hZ, dsk_own.symm, hi⟩), hp⟩
theorem Fun.dsk {P : Program} {f : FuncId} {args : List AV} {r : AV} {b : Nat} {o : List Nat} {D D' : Dk} (h : ∀ hb nb db pv Z, D.files = Z.map (·.2) → Fun P f args (dIts hb b nb db pv D Z) (fun a σ => ∃ hb' nb' db' pv' Z', D'.files = Z'.map (·.2) ∧ a = r ∧ σ = dIts hb' b nb' db' pv' D' Z')) :
    Fun P f args [dskI b o D] (fun a s => ∃ o', a = r ∧ s = [dskI b o' D']) := by
  intro F w vs hg hfit
  obtain ⟨hb, nb, db, pv, Z, h1, h2, h3⟩ := hg.items (dskI b o D) List.mem_cons_self
  have hperm : ((dIts hb b nb db pv D Z).flatMap Item.own).Perm ([dskI b o D].flatMap Item.own) := by
    rw [← h2, List.flatMap_cons, List.flatMap_nil, List.append_nil]; exact .refl _
  have hg2 : Good F (dIts hb b nb db pv D Z) w := by
    have hM : ∀ k, k < w.heap.size → both F (Items.own (dIts hb b nb db pv D Z)) k → both F (Items.own [dskI b o D]) k := fun k _ h => h.imp id (dsk_operm hperm k).1
    exact ⟨hg.fr, fun k hk => hg.own k ((dsk_operm hperm k).1 hk), hperm.nodup_iff.2 hg.nodup, fun it hi => it.keep (Keeps.refl _ _) hM (h3 it hi)⟩
  refine (h hb nb db pv Z h1 F w vs hg2 (hfit.keep (Keeps.refl _ _) (fun k _ hk => hk.imp id (dsk_operm hperm k).1))).mono ?_
  rintro e w' ⟨v, he, av, σ', ⟨hb', nb', db', pv', Z', g1, rfl, rfl⟩, g4, g5, g6, g7⟩
  obtain ⟨o', q1, q2⟩ := g4.dsk g1
  exact ⟨v, he, _, _, ⟨o', rfl, rfl⟩, q1, g5.mono (fun k _ hk => (dsk_operm hperm k).1 hk), fun k hk hlt => (dsk_operm hperm k).1 (g6 k ((dsk_operm q2 k).1 hk) hlt), av.keep (Keeps.refl _ _) (fun k _ hk => hk.imp id (dsk_operm q2 k).1) g7⟩
theorem m_disk_Append_ok {w0 : Nat} {o0 : List Nat} (a0 : Dk) (a1 a2 : List UInt8) (r : Int × Dk) (h : m_disk_Append a0 a1 a2 = some r) : Fun Try.prog 27 [pA w0 0, .exact (.string (bs a1)), .row 1 cU8 a2] [dskI w0 o0 a0] (fun a s => ∃ o', a = .exact (.int .i64 r.1) ∧ s = [dskI w0 o' r.2]) :=
  Fun.dsk fun hb nb db pv Z hZ => fun F w vs hg hf => (dk_append a1 a2 a0 hZ r h F w vs hg hf).mono fun e w' ⟨v, he, av, σ', ⟨hb', db', pv', Z', g1, g2, g3⟩, k⟩ => ⟨v, he, av, σ', ⟨hb', nb, db', pv', Z', g1, g2, g3⟩, k⟩
theorem m_disk_Sync_ok {w0 : Nat} {o0 : List Nat} (a0 : Dk) (a1 : List UInt8) (r : Int × Dk) (h : m_disk_Sync a0 a1 = some r) : Fun Try.prog 50 [pA w0 0, .exact (.string (bs a1))] [dskI w0 o0 a0] (fun a s => ∃ o', a = .exact (.int .i64 r.1) ∧ s = [dskI w0 o' r.2]) :=
  Fun.dsk fun hb nb db pv Z hZ => fun F w vs hg hf => (dk_sync a1 a0 hZ r h F w vs hg hf).mono fun e w' ⟨v, he, av, σ', ⟨db', pv', Z', g1, g2, g3⟩, k⟩ => ⟨v, he, av, σ', ⟨hb, nb, db', pv', Z', g1, g2, g3⟩, k⟩
theorem m_disk_Read_ok {w0 : Nat} {o0 : List Nat} (a0 : Dk) (a1 : List UInt8) (r : List UInt8 × Int × Dk) (h : m_disk_Read a0 a1 = some r) : Fun Try.prog 26 [pA w0 0, .exact (.string (bs a1))] [dskI w0 o0 a0] (fun a s => ∃ o', a = .tup [.row 1 cU8 r.1, .exact (.int .i64 r.2.1)] ∧ s = [dskI w0 o' r.2.2]) :=
  Fun.dsk fun hb nb db pv Z hZ => fun F w vs hg hf => (dk_read a1 a0 hZ r h F w vs hg hf).mono fun e w' ⟨v, he, av, σ', ⟨g2, g3⟩, k⟩ => ⟨v, he, av, σ', ⟨hb, nb, db, pv, Z, by
    have h' := h
    unfold m_disk_Read at h'
    have : r.2.2 = a0 := by
      split at h'
      · cases h'; rfl
      · obtain ⟨_, h'⟩ := need_some h'
        obtain ⟨_, h'⟩ := need_some h'
        cases h'; rfl
    rw [this]; exact hZ, g2, g3⟩, k⟩
theorem m_disk_Writes_ok {w0 : Nat} {o0 : List Nat} (a0 : Dk) (r : Int × Dk) (h : m_disk_Writes a0 = some r) : Fun Try.prog 32 [pA w0 0] [dskI w0 o0 a0] (fun a s => ∃ o', a = .exact (.int .i64 r.1) ∧ s = [dskI w0 o' r.2]) := by
  cases h
  exact Fun.dsk fun hb nb db pv Z hZ => fun F w vs hg hf => ((dk_writes a0).frame [dM hb nb a0.names, dM hb db a0.dur, dP hb pv a0.pend, dH hb Z, dVs Z] F w vs hg hf).mono fun e w' ⟨v, he, av, σ', ⟨s', ⟨g2, g3⟩, g4⟩, k⟩ => ⟨v, he, av, σ', ⟨hb, nb, db, pv, Z, hZ, g2, by rw [g4, g3]; rfl⟩, k⟩
theorem m_disk_New_ok (a0 : Int) (r : Dk × Int) (h : m_disk_New a0 = some r) : Fun Try.prog 21 [.exact (.int .i64 a0)] [] (fun a s => ∃ b o, a = .tup [pA b 0, .exact (.int .i64 r.2)] ∧ s = [dskI b o r.1]) := by
  obtain ⟨ha, h⟩ := need_some h
  cases h
  intro F w vs hg hf
  refine (dk_new a0 ha F w vs hg hf).mono ?_
  rintro e w' ⟨v, he, av, σ', ⟨b, nb, db, rfl, rfl⟩, g4, g5, g6, g7⟩
  obtain ⟨o', q1, q2⟩ := Good.dsk (D := ⟨a0, [], [], [], [], 0, 0, false⟩) (by rfl) g4
  exact ⟨v, he, _, _, ⟨b, o', rfl, rfl⟩, q1, g5, fun k hk hlt => g6 k ((dsk_operm q2 k).1 hk) hlt, AV.keep _ (Keeps.refl _ _) (fun k _ hk => hk.imp id (dsk_operm q2 k).1) g7⟩
end Go.Proofs.Ytkplmgdmkfgjhaa
