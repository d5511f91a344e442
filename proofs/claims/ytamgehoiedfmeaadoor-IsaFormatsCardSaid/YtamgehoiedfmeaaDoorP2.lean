/- Part of a law's proof: P2. -/
import Derived.Test.YtamgehoiedfmeaaDoorP
namespace Go.Proofs.YtamgehoiedfmeaaDoor
open Go Go.Sy
set_option maxRecDepth 100000
theorem rw_lo {x : Int} (h : x < 0) : (∀ k : Int, 0 ≤ k → eqI .i64 x k = false) ∧ (∀ k : Int, 0 ≤ k → leI .i64 k x = false) ∧ (∀ k : Int, 0 ≤ k → leI .i64 x k = true) :=
  ⟨fun k h1 => by rw [eq64, decide_eq_false_iff_not]; omega, fun k h1 => by rw [le64, decide_eq_false_iff_not]; omega, fun k h1 => by rw [le64, decide_eq_true_eq]; omega⟩
theorem rw_hi {x : Int} (h : 300 < x) : (∀ k : Int, k ≤ 300 → eqI .i64 x k = false) ∧ (∀ k : Int, k ≤ 300 → leI .i64 k x = true) ∧ (∀ k : Int, k ≤ 300 → leI .i64 x k = false) :=
  ⟨fun k h1 => by rw [eq64, decide_eq_false_iff_not]; omega, fun k h1 => by rw [le64, decide_eq_true_eq]; omega, fun k h1 => by rw [le64, decide_eq_false_iff_not]; omega⟩
theorem out33 {x : Int} (h : x < 0 ∨ 300 < x) : G33 (x, ()) = some (0, ()) := by
  rcases h with h | h
  · obtain ⟨h1, h2, h3⟩ := rw_lo h
    simp [G33, jn, h1, h2]
  · obtain ⟨h1, h2, h3⟩ := rw_hi h
    simp [G33, jn, h1, h2, h3]
theorem out21 {x : Int} (h : x < 0 ∨ 300 < x) : G21 (x, ()) = some (false, ()) := by
  rcases h with h | h
  · obtain ⟨h1, h2, h3⟩ := rw_lo h
    simp [G21, h2]
  · obtain ⟨h1, h2, h3⟩ := rw_hi h
    simp [G21, h2, h3]
theorem out23 {x : Int} (h : x < 0 ∨ 300 < x) : G23 (x, ()) = some (false, ()) := by
  simp only [G23, out33 h, Option.bind_some]; rfl
noncomputable def chk8 (n : Nat) : Bool :=
  match G20 ((n : Int), ()), G21 ((n : Int), ()), G22 ((n : Int), ()), G23 ((n : Int), ()) with
  | some (a, _), some (b, _), some (c, _), some (d, _) => (a == b) && (c == d)
  | _, _, _, _ => false
theorem chk8_all : (List.range 301).all chk8 = true := by kernel_rfl
theorem cnt24 : G24 () = some (44, ()) := by
  unfold G24
  have h := goN_ok (n := 300) (f := fun (z1 : (Int) × ((Int) × (Unit))) =>
   cond (ltI .i64 z1.2.1 (300 : Int))
   ((G37 (z1.2.1, ())).bind fun r2 =>
    cond (!(decide (r2.1 = ([] : List (BitVec 8)))))
    (some (Sum.inr ((add .i64 z1.1 (1 : Int)), (add .i64 z1.2.1 (1 : Int)), ())))
    (some (Sum.inr (z1.1, (add .i64 z1.2.1 (1 : Int)), ()))))
   (some (Sum.inl (z1.1, ())) : Option (((Int) × (Unit)) ⊕ _))) (x := (0, 0, ())) (y := (44, 300, ())) (by kernel_rfl)
  rw [h, loopT_step]
  rfl
theorem isaOps (x : Int) : G8 (x, ()) = some (true, ()) := by
  have tail : loopT (R := (Bool) × (Unit)) (X := (Int) × ((Int) × (Unit))) (fun z5 =>
     cond (ltI .i64 z5.2.1 (300 : Int))
     ((G13 ((z5.2.1, ((0 : Int), ((0 : Int), ((0 : Int), ((0#32), ()))))), ())).bind fun r6 =>
      cond r6.1
      (some (Sum.inr ((add .i64 z5.1 (1 : Int)), (add .i64 z5.2.1 (1 : Int)), ())))
      (some (Sum.inr (z5.1, (add .i64 z5.2.1 (1 : Int)), ()))))
     (((G24 ()).bind fun r7 =>
       cond (eqI .i64 z5.1 r7.1)
       ((G14 ()).bind fun r8 =>
        some (r8.1, ()))
       (some (false, ()))).map Sum.inl))
    ((0 : Int), (-5 : Int), ()) = some (true, ()) := by
    rw [goN_ok (n := 305) (y := (44, 300, ())) (by kernel_rfl), loopT_step]
    simp only [cnt24, awake, Option.bind_some]
    rfl
  unfold G8
  by_cases h : x < 0 ∨ 300 < x
  · simp only [out20 h, out21 h, out22 h, out23 h, Option.bind_some, tail]; rfl
  · obtain ⟨n, rfl⟩ : ∃ n : Nat, x = n := ⟨x.toNat, by omega⟩
    have hc := List.all_eq_true.1 chk8_all n (by simp; omega)
    unfold chk8 at hc
    split at hc
    · rename_i a _ b _ c _ d _ h1 h2 h3 h4
      simp only [h1, h2, h3, h4, Option.bind_some, tail]
      rw [Bool.and_eq_true] at hc
      rw [hc.1, hc.2]; rfl
    · cases hc
end Go.Proofs.YtamgehoiedfmeaaDoor
