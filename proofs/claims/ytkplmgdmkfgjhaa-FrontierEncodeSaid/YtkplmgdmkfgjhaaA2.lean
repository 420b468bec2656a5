/- AppendUvarint, Uvarint. -/
import Derived.Test.YtkplmgdmkfgjhaaA1
namespace Go.Proofs.Ytkplmgdmkfgjhaa
open Go.RowKit

def uvL (n : Nat) : List Int := if n < 128 then [(n : Int)] else ((n % 128 + 128 : Nat) : Int) :: uvL (n / 128)
theorem uvL_lt {n : Nat} (h : n < 128) : uvL n = [(n : Int)] := by rw [uvL, if_pos h]
theorem uvL_ge {n : Nat} (h : ¬ n < 128) : uvL n = ((n % 128 + 128 : Nat) : Int) :: uvL (n / 128) := by rw [uvL, if_neg h]
theorem uvL_len : ∀ (k n : Nat), n < 128 ^ (k + 1) → (uvL n).length ≤ k + 1
  | 0, n, h => by rw [uvL_lt (by simpa using h)]; simp
  | k + 1, n, h => by
    by_cases h1 : n < 128
    · rw [uvL_lt h1]; simp
    · rw [uvL_ge h1, List.length_cons]
      have := uvL_len k (n / 128) (by rw [Nat.pow_succ] at h; omega)
      omega
theorem uvL_len5 {n : Nat} (h : n ≤ 4294967296) : (uvL n).length ≤ 5 := uvL_len 4 n (by omega)
def bytesV (xs : List Int) : List Value := xs.map (Value.int .u8)
theorem bytesV_app (xs ys : List Int) : bytesV (xs ++ ys) = bytesV xs ++ bytesV ys := by simp [bytesV]

/-- The result of an append to a row of the call's own: the row with more elements; nothing else has changed but that row. -/
def RetApp (e size base : Nat) (v : Value) (n : Nat) (xs : List Value) (w : World) (en : Ending) (w' : World) : Prop :=
  ∃ v', en = .returned v' ∧ w'.ownsRow base e size v' n xs ∧ w.grownBy w' v.ownBlock ∧ (v'.ownBlock = v.ownBlock ∨ ∃ k, v'.ownBlock = some k ∧ w.heap.size ≤ k)

theorem one_u8 (x : Int) : ∀ u ∈ (#[Value.int .u8 x] : Array Value).toList, u.oneCell' = true := by simp [Value.oneCell']

/-- One append more, behind appends that began in w at the row v. -/
theorem app_step {w wr w' : World} {b v v' : Value} {z : Nat} (hz : wr.heap.size ≤ z) (hg : w.grownBy wr v.ownBlock) (hb : b.ownBlock = v.ownBlock ∨ ∃ k, b.ownBlock = some k ∧ w.heap.size ≤ k)
    (hg' : wr.grownBy w' b.ownBlock) (hb' : v'.ownBlock = b.ownBlock ∨ v'.ownBlock = some z) :
    w.grownBy w' v.ownBlock ∧ (v'.ownBlock = v.ownBlock ∨ ∃ k, v'.ownBlock = some k ∧ w.heap.size ≤ k) := by
  constructor
  · refine ⟨hg'.os.trans hg.os, hg'.tape.trans hg.tape, hg'.output.trans hg.output, Nat.le_trans hg.size hg'.size, fun i hi hne => ?_⟩
    refine (hg'.block i (Nat.lt_of_lt_of_le hi hg.size) (fun e => ?_)).trans (hg.block i hi hne)
    rcases hb with hb | ⟨k, hb, hk⟩
    · exact hne (e.trans hb)
    · rw [hb] at e
      injection e with e
      omega
  · rcases hb' with h | h
    · rw [h]; exact hb
    · exact .inr ⟨z, h, Nat.le_trans hg.size hz⟩

theorem or_and_128 (m : Nat) : bits .or .i64 (bits .and .i64 (m : Int) 127) 128 % 256 = ((m % 128 + 128 : Nat) : Int) := by
  rw [i64_and127]
  have h : (m : Int) % 128 = ((m % 128 : Nat) : Int) := by omega
  rw [h]
  generalize hr : m % 128 = r
  have hr' : r < 128 := by omega
  clear h hr
  revert r
  decide +kernel

set_option maxRecDepth 100000 in
set_option maxHeartbeats 400000 in
theorem cUv_any (base : Nat) (v : Value) (k : Nat) (xs : List Value) (N : Nat) (w : World) (hown : w.ownsRow base 5 1 v k xs) (hbase : base ≤ w.heap.size) (hN : N ≤ 4294967296) (hk : k ≤ 1099511627776) :
    Calls Try.prog 83 #[v, .int .i64 N] w (RetApp 5 1 base v (k + (uvL N).length) (xs ++ bytesV (uvL N)) w) := by
  have h5 := uvL_len5 hN
  go_enter Try.func83, Try.ntmps83
  go_wp2
  go_loopw [0, 1] (fun b n wr => ∃ (m : Nat) (done : List Int), m ≤ N ∧ n = .int .i64 m ∧ uvL N = done ++ uvL m ∧ wr.ownsRow base 5 1 b (k + done.length) (xs ++ bytesV done) ∧ w.grownBy wr v.ownBlock ∧ (b.ownBlock = v.ownBlock ∨ ∃ k, b.ownBlock = some k ∧ w.heap.size ≤ k))
    (fun _ n _ => (intOf n).toNat)
  case atStart => exact ⟨N, [], by omega, rfl, rfl, by simpa [bytesV] using hown, grownBy_refl _ _, .inl rfl⟩
  case round =>
    obtain ⟨m, done, hm, rfl, hu, ho, hg, hb⟩ := hrel
    have hlen : done.length ≤ 5 := by rw [hu, List.length_append] at h5; omega
    have HU := Lib.hid hu
    clear hu
    have hbw : base ≤ wr.heap.size := Nat.le_trans hbase hg.size
    by_cases h : m < 128
    · go_wp2_with (at_builtin; refine wpList_app_lit rfl (.tmp 16) (.tmp 19) _ rfl base 5 1 1 el_bytes u0 _ _ rfl ho _ 1 1 rfl rfl (one_u8 _) (by omega) (by omega) hbw ?_; intro v' w' ho' hg' hb')
      go_ret
      obtain ⟨r1, r2⟩ := app_step (Nat.le_succ _) hg hb hg' hb'
      exact ⟨_, rfl, by rw [HU.out, uvL_lt h, bytesV_app, List.length_append, ← Nat.add_assoc, ← List.append_assoc]; exact ho', r1, r2⟩
    · go_wp2_with (at_builtin; refine wpList_app_lit rfl (.tmp 7) (.tmp 12) _ rfl base 5 1 1 el_bytes u0 _ _ rfl ho _ 1 1 rfl rfl (one_u8 _) (by omega) (by omega) hbw ?_; intro v' w' ho' hg' hb')
      obtain ⟨r1, r2⟩ := app_step (Nat.le_succ _) hg hb hg' hb'
      rw [or_and_128 m] at ho'
      go_roundw
      case rel => exact ⟨m / 128, done ++ [((m % 128 + 128 : Nat) : Int)], by omega, by go_num, by rw [HU.out, uvL_ge h, List.append_assoc]; rfl, by rw [bytesV_app, List.length_append, ← Nat.add_assoc, ← List.append_assoc]; exact ho', r1, r2⟩
      case measure => simp [intOf]; omega

set_option maxRecDepth 100000 in
set_option maxHeartbeats 400000 in
theorem rUv_any (base : Nat) (v : Value) (k : Nat) (xs : List Value) (N : Nat) (w : World) (hown : w.ownsRow base 5 1 v k xs) (hbase : base ≤ w.heap.size) (hN : N ≤ 4294967296) (hk : k ≤ 1099511627776) :
    Calls Try.prog 43 #[v, .int .i64 N] w (RetApp 5 1 base v (k + (uvL N).length) (xs ++ bytesV (uvL N)) w) := by
  have h5 := uvL_len5 hN
  go_enter Try.func43, Try.ntmps43
  go_wp2
  go_loopw [0, 1] (fun b n wr => ∃ (m : Nat) (done : List Int), m ≤ N ∧ n = .int .i64 m ∧ uvL N = done ++ uvL m ∧ wr.ownsRow base 5 1 b (k + done.length) (xs ++ bytesV done) ∧ w.grownBy wr v.ownBlock ∧ (b.ownBlock = v.ownBlock ∨ ∃ k, b.ownBlock = some k ∧ w.heap.size ≤ k))
    (fun _ n _ => (intOf n).toNat)
  case atStart => exact ⟨N, [], by omega, rfl, rfl, by simpa [bytesV] using hown, grownBy_refl _ _, .inl rfl⟩
  case round =>
    obtain ⟨m, done, hm, rfl, hu, ho, hg, hb⟩ := hrel
    have hlen : done.length ≤ 5 := by rw [hu, List.length_append] at h5; omega
    have HU := Lib.hid hu
    clear hu
    have hbw : base ≤ wr.heap.size := Nat.le_trans hbase hg.size
    by_cases h : m < 128
    · go_wp2_with (at_builtin; refine wpList_app_lit rfl (.tmp 16) (.tmp 19) _ rfl base 5 1 1 el_bytes u0 _ _ rfl ho _ 1 1 rfl rfl (one_u8 _) (by omega) (by omega) hbw ?_; intro v' w' ho' hg' hb')
      go_ret
      obtain ⟨r1, r2⟩ := app_step (Nat.le_succ _) hg hb hg' hb'
      exact ⟨_, rfl, by rw [HU.out, uvL_lt h, bytesV_app, List.length_append, ← Nat.add_assoc, ← List.append_assoc]; exact ho', r1, r2⟩
    · go_wp2_with (at_builtin; refine wpList_app_lit rfl (.tmp 7) (.tmp 12) _ rfl base 5 1 1 el_bytes u0 _ _ rfl ho _ 1 1 rfl rfl (one_u8 _) (by omega) (by omega) hbw ?_; intro v' w' ho' hg' hb')
      obtain ⟨r1, r2⟩ := app_step (Nat.le_succ _) hg hb hg' hb'
      rw [show (m : Int) % 128 + 128 = ((m % 128 + 128 : Nat) : Int) by omega] at ho'
      go_roundw
      case rel => exact ⟨m / 128, done ++ [((m % 128 + 128 : Nat) : Int)], by omega, by go_num, by rw [HU.out, uvL_ge h, List.append_assoc]; rfl, by rw [bytesV_app, List.length_append, ← Nat.add_assoc, ← List.append_assoc]; exact ho', r1, r2⟩
      case measure => simp [intOf]; omega

end Go.Proofs.Ytkplmgdmkfgjhaa
