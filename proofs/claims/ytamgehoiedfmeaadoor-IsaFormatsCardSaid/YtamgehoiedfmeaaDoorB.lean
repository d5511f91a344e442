/- Bits of an instruction word: its fields are put together and taken apart again. -/
import Derived.Test.YtamgehoiedfmeaaDoorP3
namespace Go.Proofs.YtamgehoiedfmeaaDoor
open Go Go.Sy
set_option maxRecDepth 100000
set_option linter.unusedSimpArgs false
theorem thirtytwo {p : Nat → Prop} (h : p 0 ∧ p 1 ∧ p 2 ∧ p 3 ∧ p 4 ∧ p 5 ∧ p 6 ∧ p 7 ∧ p 8 ∧ p 9 ∧ p 10 ∧ p 11 ∧ p 12 ∧ p 13 ∧ p 14 ∧ p 15 ∧ p 16 ∧ p 17 ∧ p 18 ∧ p 19 ∧ p 20 ∧ p 21 ∧ p 22 ∧ p 23 ∧ p 24 ∧ p 25 ∧ p 26 ∧ p 27 ∧ p 28 ∧ p 29 ∧ p 30 ∧ p 31) : ∀ i, i < 32 → p i := by
  intro i hi
  obtain ⟨h0, h1, h2, h3, h4, h5, h6, h7, h8, h9, h10, h11, h12, h13, h14, h15, h16, h17, h18, h19, h20, h21, h22, h23, h24, h25, h26, h27, h28, h29, h30, h31⟩ := h
  have e : i = 0 ∨ i = 1 ∨ i = 2 ∨ i = 3 ∨ i = 4 ∨ i = 5 ∨ i = 6 ∨ i = 7 ∨ i = 8 ∨ i = 9 ∨ i = 10 ∨ i = 11 ∨ i = 12 ∨ i = 13 ∨ i = 14 ∨ i = 15 ∨ i = 16 ∨ i = 17 ∨ i = 18 ∨ i = 19 ∨ i = 20 ∨ i = 21 ∨ i = 22 ∨ i = 23 ∨ i = 24 ∨ i = 25 ∨ i = 26 ∨ i = 27 ∨ i = 28 ∨ i = 29 ∨ i = 30 ∨ i = 31 := by omega
  rcases e with rfl | rfl | rfl | rfl | rfl | rfl | rfl | rfl | rfl | rfl | rfl | rfl | rfl | rfl | rfl | rfl | rfl | rfl | rfl | rfl | rfl | rfl | rfl | rfl | rfl | rfl | rfl | rfl | rfl | rfl | rfl | rfl <;> assumption
def Nar (n : Nat) (a : BitVec 32) : Prop := ∀ k (h : k < 32), n ≤ k → a[k]'h = false
theorem nar_of {n : Nat} {a : BitVec 32} (h : a.toNat < 2 ^ n) : Nar n a := by
  intro k hk hn
  rw [← BitVec.getLsbD_eq_getElem, BitVec.getLsbD]
  exact Nat.testBit_lt_two_pow (Nat.lt_of_lt_of_le h (Nat.pow_le_pow_right (by omega) hn))
def encW (o a b c m : BitVec 32) : BitVec 32 := ((((o <<< 24) ||| (a <<< 20)) ||| (b <<< 16)) ||| (m &&& 65535#32)) ||| c
theorem enc_eq {o a b c m : BitVec 32} (ha : Nar 4 a) (hb : Nar 4 b) (hc : Nar 16 c) : ((((((c ||| (m &&& 65535#32)) &&& ~~~(255#32 <<< 24)) ||| ((o <<< 24) &&& (255#32 <<< 24))) &&& ~~~(15#32 <<< 20)) ||| ((a <<< 20) &&& (15#32 <<< 20))) &&& ~~~(15#32 <<< 16)) ||| ((b <<< 16) &&& (15#32 <<< 16)) = encW o a b c m := by
  apply BitVec.eq_of_getLsbD_eq
  refine thirtytwo ?_
  unfold Nar at ha hb hc
  refine ⟨?_, ?_, ?_, ?_, ?_, ?_, ?_, ?_, ?_, ?_, ?_, ?_, ?_, ?_, ?_, ?_, ?_, ?_, ?_, ?_, ?_, ?_, ?_, ?_, ?_, ?_, ?_, ?_, ?_, ?_, ?_, ?_⟩ <;>
    simp [encW, ha, hb, hc, BitVec.getLsbD_ofNat, Bool.or_comm]
theorem dec_o {o a b c m : BitVec 32} (ho : Nar 8 o) (ha : Nar 4 a) (hb : Nar 4 b) (hc : Nar 16 c) : (encW o a b c m >>> 24) &&& 255#32 = o := by
  apply BitVec.eq_of_getLsbD_eq
  refine thirtytwo ?_
  unfold Nar at ho ha hb hc
  refine ⟨?_, ?_, ?_, ?_, ?_, ?_, ?_, ?_, ?_, ?_, ?_, ?_, ?_, ?_, ?_, ?_, ?_, ?_, ?_, ?_, ?_, ?_, ?_, ?_, ?_, ?_, ?_, ?_, ?_, ?_, ?_, ?_⟩ <;>
    simp [encW, ho, ha, hb, hc, BitVec.getLsbD_ofNat]
theorem dec_a {o a b c m : BitVec 32} (ha : Nar 4 a) (hb : Nar 4 b) (hc : Nar 16 c) : (encW o a b c m >>> 20) &&& 15#32 = a := by
  apply BitVec.eq_of_getLsbD_eq
  refine thirtytwo ?_
  unfold Nar at ha hb hc
  refine ⟨?_, ?_, ?_, ?_, ?_, ?_, ?_, ?_, ?_, ?_, ?_, ?_, ?_, ?_, ?_, ?_, ?_, ?_, ?_, ?_, ?_, ?_, ?_, ?_, ?_, ?_, ?_, ?_, ?_, ?_, ?_, ?_⟩ <;>
    simp [encW, ha, hb, hc, BitVec.getLsbD_ofNat]
theorem dec_b {o a b c m : BitVec 32} (hb : Nar 4 b) (hc : Nar 16 c) : (encW o a b c m >>> 16) &&& 15#32 = b := by
  apply BitVec.eq_of_getLsbD_eq
  refine thirtytwo ?_
  unfold Nar at hb hc
  refine ⟨?_, ?_, ?_, ?_, ?_, ?_, ?_, ?_, ?_, ?_, ?_, ?_, ?_, ?_, ?_, ?_, ?_, ?_, ?_, ?_, ?_, ?_, ?_, ?_, ?_, ?_, ?_, ?_, ?_, ?_, ?_, ?_⟩ <;>
    simp [encW, hb, hc, BitVec.getLsbD_ofNat]
theorem dec_l {o a b c m : BitVec 32} (hc : Nar 16 c) : encW o a b c m &&& 65535#32 = (m &&& 65535#32) ||| c := by
  apply BitVec.eq_of_getLsbD_eq
  refine thirtytwo ?_
  unfold Nar at hc
  refine ⟨?_, ?_, ?_, ?_, ?_, ?_, ?_, ?_, ?_, ?_, ?_, ?_, ?_, ?_, ?_, ?_, ?_, ?_, ?_, ?_, ?_, ?_, ?_, ?_, ?_, ?_, ?_, ?_, ?_, ?_, ?_, ?_⟩ <;>
    simp [encW, hc, BitVec.getLsbD_ofNat]
theorem recomp (w : BitVec 32) : encW ((w >>> 24) &&& 255#32) ((w >>> 20) &&& 15#32) ((w >>> 16) &&& 15#32) 0#32 w = w := by
  apply BitVec.eq_of_getLsbD_eq
  refine thirtytwo ?_
  refine ⟨?_, ?_, ?_, ?_, ?_, ?_, ?_, ?_, ?_, ?_, ?_, ?_, ?_, ?_, ?_, ?_, ?_, ?_, ?_, ?_, ?_, ?_, ?_, ?_, ?_, ?_, ?_, ?_, ?_, ?_, ?_, ?_⟩ <;>
    simp [encW, BitVec.getLsbD_ofNat]
theorem recompC (w : BitVec 32) : encW ((w >>> 24) &&& 255#32) ((w >>> 20) &&& 15#32) ((w >>> 16) &&& 15#32) (w &&& 65535#32) 0#32 = w := by
  apply BitVec.eq_of_getLsbD_eq
  refine thirtytwo ?_
  refine ⟨?_, ?_, ?_, ?_, ?_, ?_, ?_, ?_, ?_, ?_, ?_, ?_, ?_, ?_, ?_, ?_, ?_, ?_, ?_, ?_, ?_, ?_, ?_, ?_, ?_, ?_, ?_, ?_, ?_, ?_, ?_, ?_⟩ <;>
    simp [encW, BitVec.getLsbD_ofNat]
theorem hi8 (w : BitVec 32) : (w >>> 24) &&& 255#32 = w >>> 24 := by
  apply BitVec.eq_of_getLsbD_eq
  refine thirtytwo ?_
  refine ⟨?_, ?_, ?_, ?_, ?_, ?_, ?_, ?_, ?_, ?_, ?_, ?_, ?_, ?_, ?_, ?_, ?_, ?_, ?_, ?_, ?_, ?_, ?_, ?_, ?_, ?_, ?_, ?_, ?_, ?_, ?_, ?_⟩ <;>
    simp [encW, BitVec.getLsbD_ofNat]
end Go.Proofs.YtamgehoiedfmeaaDoor
