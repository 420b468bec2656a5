/- append words; the encodings of numbers. -/
import Derived.Test.YtkplmgdmkfgjhaaWds
import Derived.Maps.AppendAt
import Derived.Deep.AppendLies
namespace Go.Proofs.Ytkplmgdmkfgjhaa
open Go.RowKit

/-- What is known of a slice type t over elements e. -/
def ElTy (P : Program) (t e : TypeId) (size bytes : Nat) : Prop :=
  P.underlying t = some (.slice e) ∧ 0 < size ∧ ∃ i z, P.info? e = some i ∧ i.zero = some z ∧ i.size = size ∧ i.bytes = bytes ∧ z.cells.size = size

theorem elTy_of {P : Program} {t e : TypeId} {size bytes : Nat} {z : Value} (ht : P.underlying t = some (.slice e)) (h : (P.info? e).map (fun i => (i.zero, i.size, i.bytes)) = some (some z, size, bytes)) (hz : z.cells.size = size) (hs : 0 < size) :
    ElTy P t e size bytes := by
  obtain ⟨i, hi, h1, h2, h3⟩ := info_parts h
  exact ⟨ht, hs, i, z, hi, h1, h2, h3, hz⟩

section
variable {P : Program} {W : World} {ops : Array Oper} {rest : List Oper} {o : Oper} {a : Act} {Q : Exit → Act → World → Prop}
theorem grownBy_trans {a b c : World} {r : Option Nat} (h : a.grownBy b r) (k : b.grownBy c r) : a.grownBy c r :=
  ⟨k.os.trans h.os, k.tape.trans h.tape, k.output.trans h.output, Nat.le_trans h.size k.size, fun i hi hne => (k.block i (Nat.lt_of_lt_of_le hi h.size) hne).trans (h.block i hi hne)⟩
theorem grownBy_refl (a : World) (r : Option Nat) : a.grownBy a r := ⟨rfl, rfl, rfl, Nat.le_refl _, fun _ _ _ => rfl⟩
/-- append(s, x, ..) where the new elements have just been laid in a block. -/
theorem wpList_app_lit (hgd : o.guard = none) (s x : Operand) (t : TypeId)
    (ho : o.op = .call { callee := .builtin .append, args := #[s, x], argTypes := #[t, t] })
    (base : Nat) (e : TypeId) (size bytes : Nat) (E : ElTy P t e size bytes) (v : Value) (n : Nat) (xs : List Value) (hs : a.eval s = v) (hown : W.ownsRow base e size v n xs)
    (cs : Array Value) (m c : Nat) (hx : a.eval x = .slice (some ⟨W.heap.size, 0, none⟩) m c) (hcs : cs.size = m * size) (h1 : ∀ u ∈ cs.toList, u.oneCell' = true)
    (hsz : (n + m) * bytes ≤ 140737488355328) (hsn : n + m ≤ 140737488355328) (hbase : base ≤ W.heap.size)
    (h : ∀ v' w', w'.ownsRow base e size v' (n + m) (xs ++ cs.toList) → W.grownBy w' v.ownBlock → (v'.ownBlock = v.ownBlock ∨ v'.ownBlock = some (W.heap.size + 1)) → wpList P ops Q rest (a.put o.dst v') w') :
    wpList P ops Q (o :: rest) a (W.alloc (.cells cs e)) := by
  obtain ⟨ht, hs0, i, z, hi, hz, hz1, hz2, hz3⟩ := E
  refine wpList_append_own_at (W.alloc (.cells cs e)) hgd s x t ho base e i z size bytes ht hi hz hz1 hz2 hz3 hs0 v n xs hs (hown.alloc _) ⟨W.heap.size, 0, none⟩ m c cs.toList hx (by simpa using hcs)
    (fun j u hu => ?_) h1 (by simp only [maxLen]; omega) hsz (by simp; omega) (fun v' w' h2 h3 _ h5 => h v' w' h2 (grownBy_trans (World.grownBy_alloc W _ _) h3) ?_)
  · have hadd : (⟨W.heap.size, 0, none⟩ : Addr).add j = ⟨W.heap.size, j, none⟩ := by unfold Addr.add; split <;> simp_all
    rw [hadd, cell_of_row _ W.heap.size j cs e (0, 0) (heap_alloc_new W _)]
    simpa using hu
  · rcases h5 with h5 | h5
    · exact .inl h5
    · exact .inr (by rw [h5]; simp)

theorem below_app {base e size n : Nat} {w0 w w' : World} {v : Value} {xs : List Value} (h : Below base w0 w) (hown : w.ownsRow base e size v n xs) (hg : w.grownBy w' v.ownBlock) (hb : base ≤ w.heap.size) : Below base w0 w' :=
  h.grown hg hb (fun k hk => (hown.lt k hk).1)

theorem own_more {base base' e size n : Nat} {w : World} {v : Value} {xs : List Value} (h : w.ownsRow base e size v n xs) (hb : base' ≤ base) : w.ownsRow base' e size v n xs := by
  refine ⟨h.1, ?_⟩
  rcases h.2 with h2 | ⟨g, cap, cur, hv, hg, r⟩
  · exact .inl h2
  · exact .inr ⟨g, cap, cur, hv, Nat.le_trans hb hg, r⟩
theorem own_ne {base e size n g : Nat} {w : World} {v : Value} {xs : List Value} (hown : w.ownsRow base e size v n xs) (hg : w.heap.size ≤ g) : some g ≠ v.ownBlock :=
  fun h => by have := (hown.lt _ h.symm).2; omega

/-- What a slice, nil or not, holds: the cells news, m elements. -/
def Src (w : World) (A : Option Addr) (m size : Nat) (news : List Value) : Prop :=
  news.length = m * size ∧ (m ≠ 0 → ∃ ad, A = some ad ∧ ∀ j u, news[j]? = some u → w.cell? (ad.add j) = some u)

theorem run_app_nil (base : Nat) (t ty e : TypeId) (i : TypeInfo) (size : Nat) (ht : P.underlying t = some (.slice e)) (hi : P.info? e = some i)
    (v : Value) (n : Nat) (xs : List Value) (hown : W.ownsRow base e size v n xs) (c : Nat) : (Builtin.append_ #[t, t] ty #[v, .slice none 0 c]).run P W = .ok v W := by
  rcases hown.2 with ⟨rfl, rfl⟩ | ⟨g, cap, cur, rfl, _, _, hnc, _⟩
  · simp [Builtin.append_, run_underlying ht, sizeOf, typeInfo, hi, Builtin.lenOf, Builtin.firstCells]
  · simp [Builtin.append_, run_underlying ht, sizeOf, typeInfo, hi, Builtin.lenOf, Builtin.firstCells, hnc, storeCells]

/-- append(s, x...) onto a row of the call's own, whatever slice x is. -/
theorem wpList_app_src (hgd : o.guard = none) (s x : Operand) (t : TypeId)
    (ho : o.op = .call { callee := .builtin .append, args := #[s, x], argTypes := #[t, t] })
    (base : Nat) (e : TypeId) (size bytes : Nat) (E : ElTy P t e size bytes) (v : Value) (n : Nat) (xs : List Value) (hs : a.eval s = v) (hown : W.ownsRow base e size v n xs)
    (A : Option Addr) (m c : Nat) (news : List Value) (hx : a.eval x = .slice A m c) (hsrc : Src W A m size news) (h1 : ∀ u ∈ news, u.oneCell' = true)
    (hsz : (n + m) * bytes ≤ 140737488355328) (hsn : n + m ≤ 140737488355328) (hbase : base ≤ W.heap.size)
    (h : ∀ v' w', w'.ownsRow base e size v' (n + m) (xs ++ news) → W.grownBy w' v.ownBlock → (v'.ownBlock = v.ownBlock ∨ v'.ownBlock = some W.heap.size) → wpList P ops Q rest (a.put o.dst v') w') :
    wpList P ops Q (o :: rest) a W := by
  obtain ⟨ht, hs0, i, z, hi, hz, hz1, hz2, hz3⟩ := E
  obtain ⟨hl, hc⟩ := hsrc
  have hm63 : n + m ≤ maxLen := by simp only [maxLen]; omega
  rcases A with _ | ad
  · have hm : m = 0 := by
      rcases Nat.eq_zero_or_pos m with h0 | h0
      · exact h0
      · obtain ⟨ad, h, _⟩ := hc (by omega)
        cases h
    subst hm
    have hn : news = [] := List.eq_nil_of_length_eq_zero (by simpa using hl)
    subst hn
    refine wpList_plain hgd fun K hK => ?_
    have hr := run_app_nil (P := P) (W := W) base t o.type e i size ht hi v n xs hown c
    unfold Oper.wp execOp
    simp only [ho, resolve, invoke, builtin, Sem.run_bind, Sem.run_pure, Result.andThen_ok, List.map_toArray, List.map_cons, List.map_nil, hs, hx, hr]
    exact hK _ _ (h v W (by simpa using hown) (grownBy_refl _ _) (.inl rfl))
  · refine wpList_append_own_at W hgd s x t ho base e i z size bytes ht hi hz hz1 hz2 hz3 hs0 v n xs hs hown ad m c news hx hl (fun j u hu => ?_) h1 hm63 hsz hbase (fun v' w' h2 h3 _ h5 => h v' w' h2 h3 h5)
    rcases Nat.eq_zero_or_pos m with h0 | h0
    · subst h0
      have hn : news = [] := List.eq_nil_of_length_eq_zero (by simpa using hl)
      subst hn
      simp at hu
    · obtain ⟨ad', h, hcc⟩ := hc (by omega)
      injection h with h
      subst h
      exact hcc j u hu

theorem addr_add (b off j : Nat) : (⟨b, off, none⟩ : Addr).add j = ⟨b, off + j, none⟩ := by unfold Addr.add; split <;> simp_all
theorem Src.ints {k : IntKind} {w : World} {B : Nat} {A : Option Addr} {xs : List Int} (h : IntsAt k w B A xs) : Src w A xs.length 1 (xs.map (Value.int k)) := by
  refine ⟨by simp, fun hm => ?_⟩
  obtain ⟨b, off, hA, _, hc⟩ := h (by rintro rfl; simp at hm)
  refine ⟨_, hA, fun j u hu => ?_⟩
  rw [List.getElem?_map] at hu
  rcases hx : xs[j]? with _ | x
  · rw [hx] at hu; cases hu
  · rw [hx] at hu
    simp at hu
    subst hu
    rw [addr_add]
    exact hc j x hx
theorem own_empty (w : World) (base : Nat) (e : TypeId) (size : Nat) (hb : base ≤ w.heap.size) : (w.alloc (.cells #[] e)).ownsRow base e size (.slice (some ⟨w.heap.size, 0, none⟩) 0 0) 0 [] :=
  World.ownsRow_lit w #[] 0 hb (by simp [maxLen]) (by simp)
theorem one_map_int (k : IntKind) (xs : List Int) : ∀ u ∈ xs.map (Value.int k), u.oneCell' = true := by
  intro u hu
  obtain ⟨x, _, rfl⟩ := List.mem_map.1 hu
  rfl
end

/-- The call returns a row of its own, of n elements with the cells xs; nothing that was there has changed. -/
def RetRow (e size n : Nat) (xs : List Value) (w : World) (en : Ending) (w' : World) : Prop :=
  ∃ v, en = .returned v ∧ w'.ownsRow w.heap.size e size v n xs ∧ Below w.heap.size w w'

theorem el_bytes : ElTy Try.prog 32 5 1 1 := elTy_of (z := .int .u8 0) Try.underlying32 (by kernel_rfl) rfl (by omega)
theorem el_ints : ElTy Try.prog 22 3 1 8 := elTy_of (z := .int .i64 0) Try.underlying22 (by kernel_rfl) rfl (by omega)
theorem el_prs : ElTy Try.prog 23 29 2 16 := elTy_of (z := .agg #[.int .i64 0, .int .i64 0]) Try.underlying23 (by kernel_rfl) rfl (by omega)

end Go.Proofs.Ytkplmgdmkfgjhaa
