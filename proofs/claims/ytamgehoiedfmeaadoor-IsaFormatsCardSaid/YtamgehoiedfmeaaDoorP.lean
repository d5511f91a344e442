/- Part of a law's proof: P. -/
import Derived.Test.YtamgehoiedfmeaaDoorT
namespace Go.Proofs.YtamgehoiedfmeaaDoor
open Go Go.Sy
set_option maxRecDepth 100000
/-- A loop's rounds, as long as it goes on. -/
def goN {X R : Type} (f : X → Option (R ⊕ X)) : Nat → X → Option X
  | 0, x => some x
  | n + 1, x => match f x with
    | some (.inr y) => goN f n y
    | _ => none
theorem goN_ok {X R : Type} {f : X → Option (R ⊕ X)} : ∀ {n : Nat} {x y : X}, goN f n x = some y → loopT f x = loopT f y := by
  intro n
  induction n with
  | zero => intro x y h; cases h; rfl
  | succ n ih =>
    intro x y h
    simp only [goN] at h
    split at h
    · rename_i z hz; rw [loopT_step, hz]; exact ih h
    · cases h
theorem eq64 (a b : Int) : eqI .i64 a b = decide (a = b) := rfl
theorem lt64 (a b : Int) : ltI .i64 a b = decide (a < b) := rfl
theorem le64 (a b : Int) : leI .i64 a b = decide (a ≤ b) := rfl
theorem itoa_pos (n : Nat) : Lib.itoa (n : Int) = Lib.decDigits n := by simp [Lib.itoa]
theorem dd_lt {u : Nat} (h : u < 10) : Lib.decDigits u = [UInt8.ofNat (48 + u)] := by rw [Lib.decDigits, dif_pos h]
theorem i3 : G34 (3, ()) = some ([51#8], ()) := by
  have : Lib.itoa 3 = [51] := by rw [show (3 : Int) = ((3 : Nat) : Int) from rfl, itoa_pos, dd_lt (by omega)]; rfl
  simp [G34, this, lstr]
theorem i4 : G34 (4, ()) = some ([52#8], ()) := by
  have : Lib.itoa 4 = [52] := by rw [show (4 : Int) = ((4 : Nat) : Int) from rfl, itoa_pos, dd_lt (by omega)]; rfl
  simp [G34, this, lstr]
theorem im8 : G34 (-8, ()) = some ([45#8, 56#8], ()) := by
  have : Lib.itoa (-8) = [45, 56] := by
    have : Lib.itoa (-8) = 45 :: Lib.decDigits 8 := by simp [Lib.itoa]
    rw [this, dd_lt (by omega)]; rfl
  simp [G34, this, lstr]
theorem f17 : G17 (((32 : Int), ((3 : Int), ((4 : Int), ((0 : Int), ((BitVec.ofInt 32 (-8)), ()))))), ()) = some ([108#8, 119#8, 32#8, 114#8, 51#8, 44#8, 32#8, 45#8, 56#8, 40#8, 114#8, 52#8, 41#8], ()) := by
  have h13 : G13 (((32 : Int), ((3 : Int), ((4 : Int), ((0 : Int), ((BitVec.ofInt 32 (-8)), ()))))), ()) = some (true, ()) := by kernel_rfl
  have h29 : G29 (32, ()) = some ((true, (true, (false, ((BitVec.ofInt 32 (-32768)), ((32767#32), ()))))), true, ()) := by kernel_rfl
  have h35 : G35 (32, ()) = some ([108#8, 119#8], ()) := by kernel_rfl
  have hc : cv .i32 .i64 (BitVec.ofInt 32 (-8)) = (-8 : Int) := by kernel_rfl
  have h36 : ∀ n l, G34 (n, ()) = some (l, ()) → l.length < 100 → G36 (n, ()) = some (114#8 :: l, ()) := by
    intro n l h hl
    simp only [G36, h, Option.bind_some]
    simp [room]; omega
  simp only [G17, h13, h29, h35, hc, im8, h36 3 _ i3 (by decide), h36 4 _ i4 (by decide), Option.bind_some]

  rfl
theorem awake : G14 () = some (true, ()) := by
  have h11 : G11 (((16 : Int), ((1 : Int), ((2 : Int), ((0 : Int), ((BitVec.ofInt 32 (-1)), ()))))), ()) = some (269680639#32, 0, ()) := by kernel_rfl
  have h15 : G15 ((0#32), ()) = some (((0 : Int), ((0 : Int), ((0 : Int), ((0 : Int), ((0#32), ()))))), false, ()) := by kernel_rfl
  simp only [G14, h11, h15, f17, Option.bind_some]

  rfl
/-! ### IsaBlocks -/
noncomputable def chk9 (n : Nat) : Bool :=
  match G22 ((n : Int), ()), G20 ((n : Int), ()), G13 (((n : Int), (0, (0, (0, (0#32, ()))))), ()) with
  | some (e, _), some (p, _), some (v, _) => (!p || e) && (e == (decide (40 ≤ n) && v))
  | _, _, _ => false
theorem chk9_all : (List.range 301).all chk9 = true := by kernel_rfl
theorem out20 {x : Int} (h : x < 0 ∨ 300 < x) : G20 (x, ()) = some (false, ()) := by
  have e : ∀ k : Int, 0 ≤ k → k ≤ 300 → eqI .i64 x k = false := fun k h1 h2 => by rw [eq64]; simp; omega
  simp [G20, e]
theorem out35 {x : Int} (h : x < 0 ∨ 300 < x) : G35 (x, ()) = some ([], ()) := by
  unfold G35
  rcases h with h | h
  · rw [show ltI .i64 x 0 = true by rw [lt64]; simp; omega]; rfl
  · rw [show ltI .i64 x 0 = false by rw [lt64]; simp; omega, show leI .i64 65 x = true by rw [le64]; simp; omega]; rfl
theorem out22 {x : Int} (h : x < 0 ∨ 300 < x) : G22 (x, ()) = some (false, ()) := by
  unfold G22
  cases leI .i64 40 x
  · rfl
  · simp only [cond_true, out35 h, Option.bind_some]; rfl
theorem isaBlocks (x : Int) : G9 (x, ()) = some (true, ()) := by
  by_cases h : x < 0 ∨ 300 < x
  · have h1 : (cond (ltI .i64 x 0) (some (Sum.inr (true, ()))) (some (Sum.inr (ltI .i64 300 x, ()))) : Option ((Bool × Unit) ⊕ (Bool × Unit))) = some (Sum.inr (true, ())) := by
      rcases h with h | h
      · rw [show ltI .i64 x 0 = true by rw [lt64]; simp; omega]; rfl
      · rw [show ltI .i64 300 x = true by rw [lt64]; simp; omega]; cases ltI .i64 x 0 <;> rfl
    simp only [G9, h1, jn, cond_true, out22 h, out20 h, Option.bind_some, Bool.not_false, awake]
  · obtain ⟨n, rfl⟩ : ∃ n : Nat, x = n := ⟨x.toNat, by omega⟩
    have hc := List.all_eq_true.1 chk9_all n (by simp; omega)
    unfold chk9 at hc
    split at hc
    · rename_i e _ p _ v _ he hp hv
      have h1 : (cond (ltI .i64 (n : Int) 0) (some (Sum.inr (true, ()))) (some (Sum.inr (ltI .i64 300 (n : Int), ()))) : Option ((Bool × Unit) ⊕ (Bool × Unit))) = some (Sum.inr (false, ())) := by
        rw [show ltI .i64 (n : Int) 0 = false by rw [lt64, decide_eq_false_iff_not]; omega, show ltI .i64 300 (n : Int) = false by rw [lt64]; simp; omega]; rfl
      have h40 : leI .i64 40 (n : Int) = decide (40 ≤ n) := by rw [le64, decide_eq_decide]; omega
      simp only [G9, h1, jn, cond_false, he, hp, hv, Option.bind_some, awake, h40]
      rw [Bool.and_eq_true, beq_iff_eq] at hc
      obtain ⟨c1, rfl⟩ := hc
      generalize decide (40 ≤ n) = d at *
      cases p <;> cases v <;> cases d <;> first | rfl | cases c1
    · cases hc
end Go.Proofs.YtamgehoiedfmeaaDoor
