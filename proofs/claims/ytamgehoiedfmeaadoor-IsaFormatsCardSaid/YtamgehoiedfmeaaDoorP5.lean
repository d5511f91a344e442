/- Part of a law's proof: P5. -/
import Derived.Test.YtamgehoiedfmeaaDoorP4
namespace Go.Proofs.YtamgehoiedfmeaaDoor
open Go Go.Sy
set_option maxRecDepth 100000
set_option linter.unusedSimpArgs false
theorem sx_eq (w : BitVec 32) : BitVec.ofInt 32 ((w &&& 65535#32).setWidth 16).toInt = sx (w &&& 65535#32) := by
  show ((w &&& 65535#32).setWidth 16).signExtend 32 = _
  apply BitVec.eq_of_getLsbD_eq
  refine thirtytwo ?_
  refine ⟨?_, ?_, ?_, ?_, ?_, ?_, ?_, ?_, ?_, ?_, ?_, ?_, ?_, ?_, ?_, ?_, ?_, ?_, ?_, ?_, ?_, ?_, ?_, ?_, ?_, ?_, ?_, ?_, ?_, ?_, ?_, ?_⟩ <;>
    simp [sx, BitVec.getElem_signExtend, BitVec.getElem_sshiftRight, BitVec.msb_eq_getLsbD_last]
theorem sx_dL (w : BitVec 32) : BitVec.ofInt 32 ((dL w).setWidth 16).toInt = sx (dL w) := sx_eq w
theorem g16 {w : BitVec 32} {f : Nat} (hf : f < 10) (hs : G33 (((dO w).toNat : Int), ()) = some ((f : Int), ())) :
    G16 (w, ()) = cond (dV f w) (some (dI f w, true, ())) (some (zI, false, ())) := by
  have hs' : G33 (((w >>> 24).toNat : Int), ()) = some ((f : Int), ()) := by rw [← hi8]; exact hs
  have hg := fun A B C m => g28 (A := A) (B := B) (C := C) (m := m) hf hs'
  have fs : f = 0 ∨ f = 1 ∨ f = 2 ∨ f = 3 ∨ f = 4 ∨ f = 5 ∨ f = 6 ∨ f = 7 ∨ f = 8 ∨ f = 9 := by omega
  have hz : f = 0 → vld f = fun _ _ _ _ => false := by rintro rfl; funext A B C m; simp [vld]
  have cu : ∀ v : BitVec 32, cv .u32 .i32 v = v := fun _ => rfl
  have s24 : ∀ w : BitVec 32, shr .u32 w (cnt .u64 24#64) = w >>> 24 := fun _ => rfl
  have s20 : ∀ w : BitVec 32, shr .u32 w (cnt .u64 20#64) = w >>> 20 := fun _ => rfl
  have s16 : ∀ w : BitVec 32, shr .u32 w (cnt .u64 16#64) = w >>> 16 := fun _ => rfl
  have ai : ∀ a b : BitVec 32, andI .u32 a b = a &&& b := fun _ _ => rfl
  have dd : ∀ k : Nat, decide ((f : Int) = (k : Int)) = (f == k) := fun k => by rw [Bool.eq_iff_iff]; simp only [decide_eq_true_eq, beq_iff_eq]; omega
  have d0 : decide ((f : Int) = 0) = (f == 0) := dd 0
  have d2 : decide ((f : Int) = 2) = (f == 2) := dd 2
  have d3 : decide ((f : Int) = 3) = (f == 3) := dd 3
  have d7 : decide ((f : Int) = 7) = (f == 7) := dd 7
  clear dd
  have hL : w &&& 65535#32 = dL w := rfl
  unfold G16
  simp only [s24, s20, s16, ai, cvN, hs', hg, Option.bind_some, cu, cvS, hL, sx_dL, eq64, d0, d2, d3, d7]
  unfold dV dI zI
  have h8 : ((w >>> 24).toNat : Int) = ((dO w).toNat : Int) := by rw [dO, hi8]
  rw [h8]
  clear hg hs hs' d0 d2 d3 d7
  generalize vld f = V at *
  rcases fs with rfl | rfl | rfl | rfl | rfl | rfl | rfl | rfl | rfl | rfl
  · rw [hz rfl]
    rfl
  all_goals
    simp only [decide_true, cond_true, cond_false, Bool.not_true, Bool.not_false, dC, dM, Nat.reduceBEq, ne_eq, not_true_eq_false, decide_false, Nat.reduceEqDiff, not_false_eq_true, Bool.false_or, Bool.or_false, dA, dB, hL]
    generalize V _ _ _ _ = b at *
    cases b <;> rfl
theorem ofInt_nat {r : Int} (h0 : 0 ≤ r) (h1 : r < 65536) : ((BitVec.ofInt 32 r).toNat : Int) = r := by
  obtain ⟨k, rfl⟩ : ∃ k : Nat, r = k := ⟨r.toNat, by omega⟩
  rw [BitVec.ofInt_natCast, BitVec.toNat_ofNat, Nat.mod_eq_of_lt (by omega)]
theorem nat_ofInt (w : BitVec 32) : BitVec.ofInt 32 (w.toNat : Int) = w := by
  rw [BitVec.ofInt_natCast, BitVec.ofNat_toNat, BitVec.setWidth_eq]
/-- The immediates of the forms 3 and 7 are their own sign extensions. -/
theorem sx_of {m : BitVec 32} (h0 : (BitVec.ofInt 32 (-32768)).sle m = true) (h1 : m.sle 32767#32 = true) : sx (m &&& 65535#32) = m := by
  rw [sle_int] at h0 h1
  have e0 : (BitVec.ofInt 32 (-32768)).toInt = -32768 := by decide
  have e1 : (32767#32).toInt = 32767 := by decide
  rw [e0, decide_eq_true_eq] at h0
  rw [e1, decide_eq_true_eq] at h1
  rw [← sx_eq]
  have e : ((m &&& 65535#32).setWidth 16).toInt = m.toInt := by
    rw [BitVec.toInt_eq_toNat_bmod] at h0 h1 ⊢
    rw [BitVec.toInt_eq_toNat_bmod, BitVec.toNat_setWidth, BitVec.toNat_and]
    have h2 : m.toNat &&& (65535#32).toNat = m.toNat % 2 ^ 16 := Nat.and_two_pow_sub_one_eq_mod m.toNat 16
    rw [h2]
    have := m.isLt
    simp only [Int.bmod] at *
    omega
  rw [e, BitVec.ofInt_toInt]
theorem lo_of {m : BitVec 32} (h0 : (0#32).sle m = true) (h1 : m.sle 65535#32 = true) : m &&& 65535#32 = m := by
  rw [sle_int] at h0 h1
  have e0 : (0#32).toInt = 0 := by decide
  have e1 : (65535#32).toInt = 65535 := by decide
  rw [e0, decide_eq_true_eq] at h0
  rw [e1, decide_eq_true_eq] at h1
  apply BitVec.eq_of_toNat_eq
  have h2 : (m &&& 65535#32).toNat = m.toNat % 2 ^ 16 := by
    rw [BitVec.toNat_and]
    exact Nat.and_two_pow_sub_one_eq_mod m.toNat 16
  rw [h2]
  rw [BitVec.toInt_eq_toNat_bmod] at h0 h1
  have := m.isLt
  simp only [Int.bmod] at *
  omega
theorem sx_lo (l : BitVec 32) : sx (l &&& 65535#32) &&& 65535#32 = l &&& 65535#32 := by
  apply BitVec.eq_of_getLsbD_eq
  refine thirtytwo ?_
  refine ⟨?_, ?_, ?_, ?_, ?_, ?_, ?_, ?_, ?_, ?_, ?_, ?_, ?_, ?_, ?_, ?_, ?_, ?_, ?_, ?_, ?_, ?_, ?_, ?_, ?_, ?_, ?_, ?_, ?_, ?_, ?_, ?_⟩ <;>
    simp [sx, BitVec.getElem_sshiftRight, BitVec.msb_eq_getLsbD_last]
theorem encW_m (o a b c m : BitVec 32) : encW o a b c m = encW o a b c (m &&& 65535#32) := by
  unfold encW
  rw [BitVec.and_assoc, BitVec.and_self]
theorem dL_lt (w : BitVec 32) : (dL w).toNat < 65536 := by
  have h2 : (dL w).toNat = w.toNat % 2 ^ 16 := by
    rw [dL, BitVec.toNat_and]
    exact Nat.and_two_pow_sub_one_eq_mod w.toNat 16
  omega
/-- What is decoded is encoded as the same word. -/
theorem enc_dec (f : Nat) (w : BitVec 32) : encI ((dO w).toNat : Int) ((dA w).toNat : Int) ((dB w).toNat : Int) (dC f w) (dM f w) = w := by
  unfold encI
  simp only [nat_ofInt]
  cases h : f == 2
  · have e : dM f w &&& 65535#32 = w &&& 65535#32 := by
      unfold dM
      rw [h, cond_false]
      cases f == 3 || f == 7
      · show (w &&& 65535#32) &&& 65535#32 = _
        rw [BitVec.and_assoc, BitVec.and_self]
      · exact sx_lo w
    rw [encW_m, e, ← encW_m]
    unfold dC
    rw [h]
    exact recomp w
  · unfold dC dM
    rw [h]
    simp only [cond_true, nat_ofInt]
    exact recompC w
end Go.Proofs.YtamgehoiedfmeaaDoor
