/- Part of a law's proof: F. -/
import Derived.Test.YtamgehoiedfmeaaDoorP9
namespace Go.Proofs.YtamgehoiedfmeaaDoor
open Go Go.Sy
set_option maxRecDepth 100000
/-! ### The decimal numeral as bits -/
def dg (n : Nat) : BitVec 8 := BitVec.ofNat 8 (48 + n)
def dd (u : Nat) : List (BitVec 8) := (Lib.decDigits u).map UInt8.toBitVec
theorem dd_small {u : Nat} (h : u < 10) : dd u = [dg u] := by
  unfold dd
  rw [dd_lt h]
  rfl
theorem dd_big {u : Nat} (h : ¬ u < 10) : dd u = dd (u / 10) ++ [dg (u % 10)] := by
  unfold dd
  rw [Lib.decDigits, dif_neg h, List.map_append]
  rfl
def ls (n : Int) : List (BitVec 8) := lstr ⟨(Lib.itoa n).toArray⟩
theorem ls_nat (u : Nat) : ls (u : Int) = dd u := by
  unfold ls lstr dd
  rw [itoa_pos]
theorem ls_neg (u : Nat) (h : 1 ≤ u) : ls (-(u : Int)) = 45#8 :: dd u := by
  have e : Lib.itoa (-(u : Int)) = 45 :: Lib.decDigits u := by
    unfold Lib.itoa
    rw [if_pos (by omega)]
    simp
  unfold ls lstr dd
  rw [e]
  rfl
theorem dd_len : ∀ (k u : Nat), u < 10 ^ (k + 1) → (dd u).length ≤ k + 1
  | 0, u, h => by rw [dd_small (by simpa using h)]; exact Nat.le_refl _
  | k + 1, u, h => by
    by_cases h1 : u < 10
    · rw [dd_small h1]
      simp
    · rw [dd_big h1, List.length_append]
      have := dd_len k (u / 10) (by rw [Nat.pow_succ] at h; omega)
      simp only [List.length_cons, List.length_nil]
      omega
theorem dd_char (u : Nat) : ∀ c ∈ dd u, 48 ≤ c.toNat ∧ c.toNat ≤ 57 := by
  induction u using Nat.strongRecOn with
  | _ u ih =>
    have hd : ∀ n, n < 10 → 48 ≤ (dg n).toNat ∧ (dg n).toNat ≤ 57 := fun n hn => by
      unfold dg
      rw [BitVec.toNat_ofNat, Nat.mod_eq_of_lt (by omega)]
      omega
    by_cases h1 : u < 10
    · rw [dd_small h1]
      intro c hc
      rw [List.mem_singleton] at hc
      rw [hc]
      exact hd u h1
    · rw [dd_big h1]
      intro c hc
      rw [List.mem_append, List.mem_singleton] at hc
      rcases hc with hc | hc
      · exact ih (u / 10) (by omega) c hc
      · rw [hc]
        exact hd _ (by omega)
def pv (l : List (BitVec 8)) : Nat := l.foldl (fun a c => a * 10 + (c.toNat - 48)) 0
theorem pv_dd (u : Nat) : pv (dd u) = u := by
  have hd : ∀ n, n < 10 → (dg n).toNat - 48 = n := fun n hn => by
    unfold dg
    rw [BitVec.toNat_ofNat, Nat.mod_eq_of_lt (by omega)]
    omega
  induction u using Nat.strongRecOn with
  | _ u ih =>
    by_cases h1 : u < 10
    · rw [dd_small h1]
      simp [pv, hd u h1]
    · rw [dd_big h1]
      have := ih (u / 10) (by omega)
      unfold pv at *
      rw [List.foldl_append, this]
      simp only [List.foldl_cons, List.foldl_nil, hd _ (Nat.mod_lt u (by omega : 0 < 10))]
      omega
theorem dd_ne (u : Nat) : dd u ≠ [] := by
  by_cases h1 : u < 10
  · rw [dd_small h1]; simp
  · rw [dd_big h1]; simp
theorem ls_cases (n : Int) : (∃ u : Nat, n = u ∧ ls n = dd u) ∨ (∃ u : Nat, 1 ≤ u ∧ n = -(u : Int) ∧ ls n = 45#8 :: dd u) := by
  by_cases h : 0 ≤ n
  · obtain ⟨u, rfl⟩ : ∃ u : Nat, n = u := ⟨n.toNat, by omega⟩
    exact .inl ⟨u, rfl, ls_nat u⟩
  · obtain ⟨u, hu, rfl⟩ : ∃ u : Nat, 1 ≤ u ∧ n = -(u : Int) := ⟨n.natAbs, by omega, by omega⟩
    exact .inr ⟨u, hu, rfl, ls_neg u hu⟩
theorem ls_char (n : Int) : ∀ c ∈ ls n, c = 45#8 ∨ (48 ≤ c.toNat ∧ c.toNat ≤ 57) := by
  intro c hc
  rcases ls_cases n with ⟨u, -, h⟩ | ⟨u, -, -, h⟩ <;> rw [h] at hc
  · exact .inr (dd_char u c hc)
  · rw [List.mem_cons] at hc
    rcases hc with hc | hc
    · exact .inl hc
    · exact .inr (dd_char u c hc)
theorem ls_inj {n k : Int} (h : ls n = ls k) : n = k := by
  have hh : ∀ u v : Nat, dd u = 45#8 :: dd v → False := fun u v e => by
    have := dd_char u 45#8 (by rw [e]; exact List.mem_cons_self)
    have e45 : (45#8).toNat = 45 := rfl
    omega
  have hd : ∀ u v : Nat, dd u = dd v → u = v := fun u v e => by rw [← pv_dd u, e, pv_dd]
  rcases ls_cases n with ⟨u, rfl, h1⟩ | ⟨u, -, rfl, h1⟩ <;> rcases ls_cases k with ⟨v, rfl, h2⟩ | ⟨v, -, rfl, h2⟩ <;> rw [h1, h2] at h
  · rw [hd _ _ h]
  · exact (hh _ _ h).elim
  · exact (hh _ _ h.symm).elim
  · rw [hd _ _ (List.cons.inj h).2]
theorem ls_no {n : Int} {s : BitVec 8} (h : s = 32#8 ∨ s = 40#8 ∨ s = 44#8) : s ∉ ls n := by
  intro hc
  have e0 : (32#8).toNat = 32 := rfl
  have e1 : (40#8).toNat = 40 := rfl
  have e2 : (44#8).toNat = 44 := rfl
  have e3 : (45#8).toNat = 45 := rfl
  rcases ls_char n s hc with h1 | h1
  · subst h1
    rcases h with h | h | h <;> exact absurd h (by decide)
  · rcases h with rfl | rfl | rfl <;> omega
theorem ls_len {n : Int} (h0 : -9223372036854775808 ≤ n) (h1 : n ≤ 9223372036854775807) : (ls n).length ≤ 21 := by
  rcases ls_cases n with ⟨u, hu, h⟩ | ⟨u, -, hu, h⟩ <;> rw [h]
  · exact Nat.le_trans (dd_len 19 u (by omega)) (by omega)
  · exact Nat.succ_le_succ (dd_len 19 u (by omega))
theorem rm {n : Nat} (h : n ≤ 1000) : room n = true := by
  unfold room
  rw [decide_eq_true_eq]
  omega
/-! ### The two ways of printing a number -/
theorem g34 {n : Int} (h0 : -9223372036854775808 ≤ n) (h1 : n ≤ 9223372036854775807) : G34 (n, ()) = some (ls n, ()) := by
  unfold G34
  rw [decide_eq_true h0, decide_eq_true h1]
  rfl
theorem g46n : ∀ (k : Nat) (v : BitVec 64), v.toNat < 10 ^ (k + 1) → k < 20 → G46n (k + 1) (v, ()) = some (dd v.toNat, ())
  | k, v, h, hk => by
    have hlt : ltI .u64 v 10#64 = decide (v.toNat < 10) := rfl
    have hz : isZ .u64 10#64 = false := rfl
    have hq : quo .u64 v 10#64 = v / 10#64 := rfl
    have hr : rem .u64 v 10#64 = v % 10#64 := rfl
    have e10 : (10#64).toNat = 10 := rfl
    have hc : ∀ w : BitVec 64, w.toNat < 10 → cv .u64 .u8 (add .u64 48#64 w) = dg w.toNat := fun w hw => by
      show (48#64 + w).setWidth 8 = _
      apply BitVec.eq_of_toNat_eq
      rw [BitVec.toNat_setWidth, BitVec.toNat_add]
      unfold dg
      simp only [BitVec.toNat_ofNat]
      omega
    unfold G46n
    simp only [hlt, hz, hq, hr]
    by_cases h1 : v.toNat < 10
    · rw [decide_eq_true h1, cond_true, hc v h1, dd_small h1]
    · rw [decide_eq_false h1, cond_false]
      match k with
      | 0 => exact absurd (by simpa using h) h1
      | k + 1 =>
        have hv : (v / 10#64).toNat = v.toNat / 10 := by rw [BitVec.toNat_udiv, e10]
        have hm : (v % 10#64).toNat = v.toNat % 10 := by rw [BitVec.toNat_umod, e10]
        have hb : v.toNat / 10 < 10 ^ (k + 1) := by rw [Nat.pow_succ] at h; omega
        have ih := g46n k (v / 10#64) (by rw [hv]; exact hb) (by omega)
        have hl := dd_len k _ hb
        rw [ih, hc _ (by rw [hm]; omega), hv, hm, dd_big h1]
        simp only [Option.bind_some, Bool.not_false, if_true]
        rw [if_pos (rm (by simp only [List.length_cons, List.length_nil]; omega))]
theorem g46 (v : BitVec 64) : G46 (v, ()) = some (dd v.toNat, ()) := g46n 19 v (by have := v.isLt; omega) (by omega)
theorem g38 {n : Int} (h0 : -9223372036854775808 ≤ n) (h1 : n ≤ 9223372036854775807) : G38 (n, ()) = some (ls n, ()) := by
  unfold G38
  simp only [lt64, g46, Option.bind_some]
  by_cases h : n < 0
  · rw [decide_eq_true h, cond_true]
    obtain ⟨u, hu, rfl⟩ : ∃ u : Nat, 1 ≤ u ∧ n = -(u : Int) := ⟨n.natAbs, by omega, by omega⟩
    have e1 : add .i64 (-(u : Int)) 1 = -(u : Int) + 1 := w64_id (by omega) (by omega)
    have e2 : sub .i64 (ofI .i64 0) (-(u : Int) + 1) = (u : Int) - 1 := by
      show w64 (0 - (-(u : Int) + 1)) = _
      rw [w64_id (by omega) (by omega)]
      omega
    have e3 : (add .u64 (cv .i64 .u64 ((u : Int) - 1)) 1#64).toNat = u := by
      have e4 : (u : Int) - 1 = ((u - 1 : Nat) : Int) := by omega
      rw [e4]
      show (BitVec.ofInt 64 ((u - 1 : Nat) : Int) + 1#64).toNat = u
      rw [BitVec.ofInt_natCast, BitVec.toNat_add, BitVec.toNat_ofNat]
      have e5 : (1#64).toNat = 1 := rfl
      rw [e5]
      omega
    have hl := dd_len 19 u (by omega)
    rw [e1, e2, e3, if_pos (rm (by simp only [List.length_cons, List.length_nil]; omega)), ls_neg u hu]
    rfl
  · rw [decide_eq_false h, cond_false]
    obtain ⟨u, rfl⟩ : ∃ u : Nat, n = u := ⟨n.toNat, by omega⟩
    have e3 : (cv .i64 .u64 (u : Int)).toNat = u := by
      show (BitVec.ofInt 64 (u : Int)).toNat = u
      rw [BitVec.ofInt_natCast, BitVec.toNat_ofNat]
      omega
    rw [e3, ls_nat]
theorem g36 {r : Int} (h0 : 0 ≤ r) (h1 : r ≤ 15) : G36 (r, ()) = some (114#8 :: ls r, ()) := by
  have hl := ls_len (n := r) (by omega) (by omega)
  unfold G36
  rw [g34 (by omega) (by omega)]
  simp only [Option.bind_some]
  rw [if_pos (rm (by simp only [List.length_cons, List.length_nil]; omega))]
  rfl
theorem g39 {r : Int} (h0 : 0 ≤ r) (h1 : r ≤ 15) : G39 (r, ()) = some (114#8 :: ls r, ()) := by
  have hl := ls_len (n := r) (by omega) (by omega)
  unfold G39
  rw [g38 (by omega) (by omega)]
  simp only [Option.bind_some]
  rw [if_pos (rm (by simp only [List.length_cons, List.length_nil]; omega))]
  rfl
end Go.Proofs.YtamgehoiedfmeaaDoor
