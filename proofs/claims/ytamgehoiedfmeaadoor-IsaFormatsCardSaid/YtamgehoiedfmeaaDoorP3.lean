/- Part of a law's proof: P3. -/
import Derived.Test.YtamgehoiedfmeaaDoorP2
namespace Go.Proofs.YtamgehoiedfmeaaDoor
open Go Go.Sy
set_option maxRecDepth 100000
/-- A register's field: used, or zero. -/
def reg (r : Int) (u : Bool) : Bool := cond u (decide (0 ≤ r) && decide (r ≤ 15)) (decide (r = 0))
/-- The shapes of the ten forms. -/
def sh : Nat → Bool × Bool × Bool × BitVec 32 × BitVec 32 × Unit
  | 1 => (false, false, false, 0#32, 0#32, ())
  | 2 => (true, true, true, 0#32, 0#32, ())
  | 3 => (true, true, false, BitVec.ofInt 32 (-32768), 32767#32, ())
  | 4 => (true, true, false, 0#32, 65535#32, ())
  | 5 => (true, true, false, 0#32, 31#32, ())
  | 6 => (true, false, false, 0#32, 65535#32, ())
  | 7 => (true, false, false, BitVec.ofInt 32 (-32768), 32767#32, ())
  | 8 => (true, false, false, 0#32, 7#32, ())
  | 9 => (true, false, false, 0#32, 11#32, ())
  | _ => (false, false, false, 0#32, 0#32, ())
def vld (f : Nat) (A B C : Int) (m : BitVec 32) : Bool :=
  decide (f ≠ 0) && reg A (sh f).1 && reg B (sh f).2.1 && reg C (sh f).2.2.1 && (sh f).2.2.2.1.sle m && m.sle (sh f).2.2.2.2.1
theorem g30 (r : Int) (u : Bool) : G30 (r, u, ()) = some (reg r u, ()) := by
  unfold G30 reg
  simp only [eq64, lt64]
  cases u
  · by_cases h : r = 0 <;> simp [h]
  · by_cases h : r = 0
    · subst h; rfl
    · by_cases h1 : 0 < r
      · have e : decide (r < 16) = (decide (0 ≤ r) && decide (r ≤ 15)) := by
          rw [Bool.eq_iff_iff]; simp; omega
        simp [h, h1, e]
      · have e : decide (0 ≤ r) = false := by rw [decide_eq_false_iff_not]; omega
        simp [h, h1, e]
theorem g43 (r : Int) : G43 (r, ()) = some (reg r true, ()) := by
  unfold G43 reg
  simp only [le64]
  cases decide (0 ≤ r) <;> rfl
noncomputable def chkF (n : Nat) : Bool :=
  match G33 ((n : Int), ()) with
  | some (f, _) => decide (0 ≤ f) && decide (f < 10) && (match G29 ((n : Int), ()) with
    | some (s, o, _) => decide (s = sh f.toNat) && (o == decide (f.toNat ≠ 0))
    | none => false)
  | none => false
theorem chkF_all : (List.range 301).all chkF = true := by kernel_rfl
theorem out29 {x : Int} (h : x < 0 ∨ 300 < x) : G29 (x, ()) = some (sh 0, false, ()) := by
  have e : ∀ k : Int, 0 ≤ k → k ≤ 300 → eqI .i64 x k = false := fun k h1 h2 => by rw [eq64, decide_eq_false_iff_not]; omega
  simp [G29, e, out35 h, sh]
theorem form (x : Int) : ∃ f : Nat, f < 10 ∧ G33 (x, ()) = some ((f : Int), ()) ∧ G29 (x, ()) = some (sh f, decide (f ≠ 0), ()) := by
  by_cases h : x < 0 ∨ 300 < x
  · exact ⟨0, by omega, out33 h, out29 h⟩
  · obtain ⟨n, rfl⟩ : ∃ n : Nat, x = n := ⟨x.toNat, by omega⟩
    have hc := List.all_eq_true.1 chkF_all n (by simp; omega)
    unfold chkF at hc
    split at hc
    · rename_i f u hf
      simp only [Bool.and_eq_true, decide_eq_true_eq] at hc
      obtain ⟨⟨h1, h2⟩, h3⟩ := hc
      split at h3
      · rename_i s o v hg
        simp only [Bool.and_eq_true, decide_eq_true_eq, beq_iff_eq] at h3
        exact ⟨f.toNat, by omega, by rw [hf, Int.toNat_of_nonneg h1], by rw [hg, h3.1, h3.2]⟩
      · cases h3
    · cases hc
theorem g13 {x A B C : Int} {m : BitVec 32} {f : Nat} (hs : G29 (x, ()) = some (sh f, decide (f ≠ 0), ())) : G13 ((x, A, B, C, m, ()), ()) = some (vld f A B C m, ()) := by
  unfold G13 vld
  simp only [hs, g30, Option.bind_some]
  generalize decide (f ≠ 0) = a
  generalize reg A (sh f).1 = b
  generalize reg B (sh f).2.1 = c
  generalize reg C (sh f).2.2.1 = d
  show cond a _ _ = _
  have e1 : leI .i32 (sh f).2.2.2.1 m = (sh f).2.2.2.1.sle m := rfl
  have e2 : leI .i32 m (sh f).2.2.2.2.1 = m.sle (sh f).2.2.2.2.1 := rfl
  rw [e1, e2]
  generalize (sh f).2.2.2.1.sle m = p
  generalize m.sle (sh f).2.2.2.2.1 = q
  cases a <;> cases b <;> cases c <;> cases d <;> cases p <;> rfl
theorem reg_z {r : Int} (h : decide (r = 0) = true) : reg r true = true := by
  have : r = 0 := by simpa using h
  subst this; rfl
theorem sle_int (a b : BitVec 32) : a.sle b = decide (a.toInt ≤ b.toInt) := rfl
theorem g44 {f : Nat} (hf : f < 10) : G44 ((f : Int), ()) = some ((sh f).2.2.2.1.toInt, (sh f).2.2.2.2.1.toInt, ()) := by
  have fs : f = 0 ∨ f = 1 ∨ f = 2 ∨ f = 3 ∨ f = 4 ∨ f = 5 ∨ f = 6 ∨ f = 7 ∨ f = 8 ∨ f = 9 := by omega
  rcases fs with rfl | rfl | rfl | rfl | rfl | rfl | rfl | rfl | rfl | rfl <;> rfl
theorem g28 {x A B C : Int} {m : BitVec 32} {f : Nat} (hf : f < 10) (hs : G33 (x, ()) = some ((f : Int), ())) : G28 ((x, A, B, C, m, ()), ()) = some (vld f A B C m, ()) := by
  have hA := @reg_z A
  have hB := @reg_z B
  have hC := @reg_z C
  have cm : cv .i32 .i64 m = m.toInt := rfl
  have rf : ∀ r, reg r false = decide (r = 0) := fun r => rfl
  unfold G28 vld
  have e1 : (sh f).2.2.2.1.sle m = !decide (m.toInt < (sh f).2.2.2.1.toInt) := by rw [sle_int, Bool.eq_iff_iff]; simp
  have e2 : m.sle (sh f).2.2.2.2.1 = !decide ((sh f).2.2.2.2.1.toInt < m.toInt) := by rw [sle_int, Bool.eq_iff_iff]; simp
  simp only [hs, g43, Option.bind_some, cm, lt64, eq64, g44 hf, e1, e2]
  generalize decide (m.toInt < (sh f).2.2.2.1.toInt) = p
  generalize decide ((sh f).2.2.2.2.1.toInt < m.toInt) = q
  have fs : f = 0 ∨ f = 1 ∨ f = 2 ∨ f = 3 ∨ f = 4 ∨ f = 5 ∨ f = 6 ∨ f = 7 ∨ f = 8 ∨ f = 9 := by omega
  rcases fs with rfl | rfl | rfl | rfl | rfl | rfl | rfl | rfl | rfl | rfl
  all_goals
    simp only [sh, rf]
    generalize reg A true = a at *
    generalize reg B true = b at *
    generalize reg C true = c at *
    generalize decide (A = 0) = a0 at *
    generalize decide (B = 0) = b0 at *
    generalize decide (C = 0) = c0 at *
    cases a <;> cases b <;> cases c <;> cases a0 <;> cases b0 <;> cases c0 <;> first | (cases hA rfl; done) | (cases hB rfl; done) | (cases hC rfl; done) | (cases p <;> cases q <;> rfl)
end Go.Proofs.YtamgehoiedfmeaaDoor
