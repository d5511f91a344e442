/- Part of a law's proof: P4. -/
import Derived.Test.YtamgehoiedfmeaaDoorB
namespace Go.Proofs.YtamgehoiedfmeaaDoor
open Go Go.Sy
set_option maxRecDepth 100000
theorem g31o (w : BitVec 32) : G31 (w, 24, 8, ()) = some ((w >>> 24) &&& 255#32, ()) := by kernel_rfl
theorem g31a (w : BitVec 32) : G31 (w, 20, 4, ()) = some ((w >>> 20) &&& 15#32, ()) := by kernel_rfl
theorem g31b (w : BitVec 32) : G31 (w, 16, 4, ()) = some ((w >>> 16) &&& 15#32, ()) := by kernel_rfl
theorem g31l (w : BitVec 32) : G31 (w, 0, 16, ()) = some (w >>> 0 &&& 65535#32, ()) := by kernel_rfl
theorem g32 (w : BitVec 32) : G32 (w, 16, ()) = some ((w <<< 16).sshiftRight 16, ()) := by kernel_rfl
theorem g27o (w v : BitVec 32) : G27 (w, 24, 8, v, ()) = some ((w &&& ~~~(255#32 <<< 24)) ||| ((v <<< 24) &&& (255#32 <<< 24)), ()) := by kernel_rfl
theorem g27a (w v : BitVec 32) : G27 (w, 20, 4, v, ()) = some ((w &&& ~~~(15#32 <<< 20)) ||| ((v <<< 20) &&& (15#32 <<< 20)), ()) := by kernel_rfl
theorem g27b (w v : BitVec 32) : G27 (w, 16, 4, v, ()) = some ((w &&& ~~~(15#32 <<< 16)) ||| ((v <<< 16) &&& (15#32 <<< 16)), ()) := by kernel_rfl
theorem cvI (x : Int) : cv .i64 .u32 x = BitVec.ofInt 32 x := rfl
theorem cvI' (x : Int) : cv .i64 .i32 x = BitVec.ofInt 32 x := rfl
theorem cvN (w : BitVec 32) : cv .u32 .i64 w = (w.toNat : Int) := rfl
theorem cvS (w : BitVec 32) : cv .i16 .i32 (cv .u32 .i16 w) = BitVec.ofInt 32 (w.setWidth 16).toInt := rfl
/-- Being below 256 for an operation that has a form. -/
theorem chkS : (List.range 301).all (fun n => match G33 ((n : Int), ()) with | some (f, _) => decide (f = 0) || decide (n < 256) | none => true) = true := by kernel_rfl
theorem form8 {x : Int} {f : Nat} (hs : G33 (x, ()) = some ((f : Int), ())) (h0 : f ≠ 0) : 0 ≤ x ∧ x < 256 := by
  by_cases h : x < 0 ∨ 300 < x
  · rw [out33 h] at hs
    simp only [Option.some.injEq, Prod.mk.injEq] at hs
    omega
  · obtain ⟨n, rfl⟩ : ∃ n : Nat, x = n := ⟨x.toNat, by omega⟩
    have hc := List.all_eq_true.1 chkS n (by simp; omega)
    simp only [hs, Bool.or_eq_true, decide_eq_true_eq] at hc
    omega
theorem reg_le {r : Int} {u : Bool} (h : reg r u = true) : 0 ≤ r ∧ r ≤ 15 := by
  cases u
  · have : r = 0 := by simpa [reg] using h
    omega
  · simpa [reg] using h
theorem nar_int {r : Int} {n : Nat} (h0 : 0 ≤ r) (h1 : r < 2 ^ n) (hn : n ≤ 16) : Nar n (BitVec.ofInt 32 r) := by
  apply nar_of
  obtain ⟨k, rfl⟩ : ∃ k : Nat, r = k := ⟨r.toNat, by omega⟩
  rw [BitVec.ofInt_natCast, BitVec.toNat_ofNat]
  have e : (2 : Nat) ^ n ≤ 2 ^ 16 := Nat.pow_le_pow_right (by omega) hn
  have h2 : k < 2 ^ n := by exact_mod_cast h1
  rw [Nat.mod_eq_of_lt (by omega)]
  exact h2
theorem nar_mono {n k : Nat} {a : BitVec 32} (h : Nar n a) (hk : n ≤ k) : Nar k a := fun i hi h1 => h i hi (by omega)
theorem vld_reg {f : Nat} {A B C : Int} {m : BitVec 32} (h : vld f A B C m = true) : f ≠ 0 ∧ (0 ≤ A ∧ A ≤ 15) ∧ (0 ≤ B ∧ B ≤ 15) ∧ (0 ≤ C ∧ C ≤ 15) := by
  unfold vld at h
  simp only [Bool.and_eq_true, decide_eq_true_eq] at h
  obtain ⟨⟨⟨⟨⟨h0, h1⟩, h2⟩, h3⟩, -⟩, -⟩ := h
  exact ⟨h0, reg_le h1, reg_le h2, reg_le h3⟩
def encI (x A B C : Int) (m : BitVec 32) : BitVec 32 := encW (BitVec.ofInt 32 x) (BitVec.ofInt 32 A) (BitVec.ofInt 32 B) (BitVec.ofInt 32 C) m
theorem g11 {x A B C : Int} {m : BitVec 32} {f : Nat} (hs : G29 (x, ()) = some (sh f, decide (f ≠ 0), ())) :
    G11 ((x, A, B, C, m, ()), ()) = cond (vld f A B C m) (some (encI x A B C m, 0, ())) (some (0#32, 200, ())) := by
  unfold G11
  simp only [g13 hs, Option.bind_some]
  cases hv : vld f A B C m
  · rfl
  · obtain ⟨-, hA, hB, hC⟩ := vld_reg hv
    simp only [g27o, g27a, g27b, Option.bind_some, cvI, Bool.not_true, cond_false, cond_true]
    refine congrArg some (Prod.ext ?_ rfl)
    exact enc_eq (nar_int hA.1 (by omega) (by omega)) (nar_int hB.1 (by omega) (by omega)) (nar_mono (nar_int (n := 4) hC.1 (by omega) (by omega)) (by omega))
theorem g12 {x A B C : Int} {m : BitVec 32} {f : Nat} (hf : f < 10) (hs : G33 (x, ()) = some ((f : Int), ())) :
    G12 ((x, A, B, C, m, ()), ()) = cond (vld f A B C m) (some (encI x A B C m, true, ())) (some (0#32, false, ())) := by
  unfold G12
  simp only [g28 hf hs, Option.bind_some]
  cases hv : vld f A B C m <;> rfl
def dO (w : BitVec 32) : BitVec 32 := (w >>> 24) &&& 255#32
def dA (w : BitVec 32) : BitVec 32 := (w >>> 20) &&& 15#32
def dB (w : BitVec 32) : BitVec 32 := (w >>> 16) &&& 15#32
def dL (w : BitVec 32) : BitVec 32 := w &&& 65535#32
def sx (w : BitVec 32) : BitVec 32 := (w <<< 16).sshiftRight 16
def dC (f : Nat) (w : BitVec 32) : Int := cond (f == 2) ((dL w).toNat : Int) 0
def dM (f : Nat) (w : BitVec 32) : BitVec 32 := cond (f == 2) 0#32 (cond (f == 3 || f == 7) (sx (dL w)) (dL w))
def dI (f : Nat) (w : BitVec 32) : Int × Int × Int × Int × BitVec 32 × Unit := (((dO w).toNat : Int), ((dA w).toNat : Int), ((dB w).toNat : Int), dC f w, dM f w, ())
def dV (f : Nat) (w : BitVec 32) : Bool := vld f ((dA w).toNat : Int) ((dB w).toNat : Int) (dC f w) (dM f w)
def zI : Int × Int × Int × Int × BitVec 32 × Unit := (0, 0, 0, 0, 0#32, ())
theorem g15 {w : BitVec 32} {f : Nat} (hf : f < 10) (hs : G29 (((dO w).toNat : Int), ()) = some (sh f, decide (f ≠ 0), ())) :
    G15 (w, ()) = cond (dV f w) (some (dI f w, true, ())) (some (zI, false, ())) := by
  have hs' : G29 ((((w >>> 24) &&& 255#32).toNat : Int), ()) = some (sh f, decide (f ≠ 0), ()) := hs
  have eL : w >>> 0 &&& 65535#32 = dL w := by simp [dL]
  have l0 : ltI .i32 0#32 0#32 = false := rfl
  have l1 : ltI .i32 (BitVec.ofInt 32 (-32768)) 0#32 = true := rfl
  have hg := fun A B C m => g13 (A := A) (B := B) (C := C) (m := m) hs'
  have fs : f = 0 ∨ f = 1 ∨ f = 2 ∨ f = 3 ∨ f = 4 ∨ f = 5 ∨ f = 6 ∨ f = 7 ∨ f = 8 ∨ f = 9 := by omega
  have hz : f = 0 → vld f = fun _ _ _ _ => false := by rintro rfl; funext A B C m; simp [vld]
  have cu : ∀ v : BitVec 32, cv .u32 .i32 v = v := fun _ => rfl
  have es : (dL w <<< 16).sshiftRight 16 = sx (dL w) := rfl
  unfold G15
  simp only [g31o, g31a, g31b, g31l, cvN, hs', hg, Option.bind_some, eL, g32, cu, es]
  unfold dV dI zI
  clear hg hs hs'
  generalize vld f = V at *
  rcases fs with rfl | rfl | rfl | rfl | rfl | rfl | rfl | rfl | rfl | rfl <;> simp only [sh, l0, l1, decide_true, cond_true, cond_false, Bool.not_true, Bool.not_false, dC, dM, Nat.reduceBEq, ne_eq, not_true_eq_false, decide_false, Nat.reduceEqDiff, not_false_eq_true, Bool.false_or, Bool.or_false, dO, dA, dB]
  · rw [hz rfl]
    rfl
  all_goals (generalize V _ _ _ _ = b at *; cases b <;> rfl)
end Go.Proofs.YtamgehoiedfmeaaDoor
