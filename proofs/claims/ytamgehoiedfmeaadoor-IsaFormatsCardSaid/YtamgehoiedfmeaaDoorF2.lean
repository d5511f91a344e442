/- Part of a law's proof: F2. -/
import Derived.Test.YtamgehoiedfmeaaDoorF
namespace Go.Proofs.YtamgehoiedfmeaaDoor
open Go Go.Sy
set_option maxRecDepth 100000
noncomputable def nm (x : Int) : List (BitVec 8) := List.getD gv0 x.toNat []
/-- The operations that have a form have a name: short, without a space, the same in both tables. -/
theorem chkN : (List.range 301).all (fun n => match G33 ((n : Int), ()), G35 ((n : Int), ()), G37 ((n : Int), ()) with
    | some (f, _), some (a, _), some (b, _) => decide (f = 0) || (decide (a = nm (n : Int)) && decide (b = nm (n : Int)) && decide ((nm (n : Int)).length ≤ 10) && !(nm (n : Int)).contains 32#8 && !(nm (n : Int)).isEmpty && (!(decide (32 ≤ n) && decide (n ≤ 36)) || decide (f = 3)))
    | _, _, _ => false) = true := by kernel_rfl
theorem name {x : Int} {f : Nat} (h1 : G33 (x, ()) = some ((f : Int), ())) (h0 : f ≠ 0) :
    G35 (x, ()) = some (nm x, ()) ∧ G37 (x, ()) = some (nm x, ()) ∧ (nm x).length ≤ 10 ∧ 32#8 ∉ nm x ∧ nm x ≠ [] ∧ (32 ≤ x ∧ x ≤ 36 → f = 3) := by
  obtain ⟨hx0, hx1⟩ := form8 h1 h0
  obtain ⟨n, rfl⟩ : ∃ n : Nat, x = n := ⟨x.toNat, by omega⟩
  have hc := List.all_eq_true.1 chkN n (by simp; omega)
  rw [h1] at hc
  split at hc
  · rename_i f' _ a _ b _ e1 e2 e3
    simp only [Option.some.injEq, Prod.mk.injEq] at e1
    obtain ⟨e1, -⟩ := e1
    subst e1
    simp only [Bool.and_eq_true, Bool.or_eq_true, decide_eq_true_eq, Bool.not_eq_true', Int.natCast_eq_zero, h0, false_or] at hc
    obtain ⟨⟨⟨⟨⟨rfl, rfl⟩, hl⟩, hs⟩, hn⟩, h3⟩ := hc
    refine ⟨e2, e3, hl, ?_, ?_, ?_⟩
    · intro hm
      rw [List.contains_iff_mem.2 hm] at hs
      cases hs
    · intro hm
      rw [hm] at hn
      cases hn
    · intro h
      rcases h3 with h3 | h3
      · rw [← Bool.not_eq_true, Bool.and_eq_true, decide_eq_true_eq, decide_eq_true_eq] at h3
        omega
      · omega
  · cases hc
/-- No two of them have the same name. -/
theorem chkI : (List.range 301).all (fun n => match G33 ((n : Int), ()) with
    | some (f, _) => decide (f = 0) || (List.range 65).all fun k => decide (n = k) || !decide (nm (n : Int) = nm (k : Int))
    | none => false) = true := by kernel_rfl
theorem chk65 : (List.range 301).all (fun n => match G33 ((n : Int), ()) with
    | some (f, _) => decide (f = 0) || decide (n < 65)
    | none => false) = true := by kernel_rfl
theorem lt65 {x : Int} {f : Nat} (h1 : G33 (x, ()) = some ((f : Int), ())) (h0 : f ≠ 0) : 0 ≤ x ∧ x < 65 := by
  obtain ⟨hx0, hx1⟩ := form8 h1 h0
  obtain ⟨n, rfl⟩ : ∃ n : Nat, x = n := ⟨x.toNat, by omega⟩
  have hc := List.all_eq_true.1 chk65 n (by simp; omega)
  rw [h1] at hc
  simp only [Bool.or_eq_true, decide_eq_true_eq] at hc
  omega
theorem nm_inj {x y : Int} {f g : Nat} (h1 : G33 (x, ()) = some ((f : Int), ())) (h0 : f ≠ 0) (h2 : G33 (y, ()) = some ((g : Int), ())) (h3 : g ≠ 0) (h : nm x = nm y) : x = y := by
  obtain ⟨hx0, hx1⟩ := lt65 h1 h0
  obtain ⟨hy0, hy1⟩ := lt65 h2 h3
  obtain ⟨n, rfl⟩ : ∃ n : Nat, x = n := ⟨x.toNat, by omega⟩
  obtain ⟨k, rfl⟩ : ∃ k : Nat, y = k := ⟨y.toNat, by omega⟩
  have hc := List.all_eq_true.1 chkI n (by simp; omega)
  rw [h1] at hc
  simp only [Bool.or_eq_true, decide_eq_true_eq, Int.natCast_eq_zero, h0, false_or] at hc
  have := List.all_eq_true.1 hc k (by simp; omega)
  simp only [Bool.or_eq_true, decide_eq_true_eq, Bool.not_eq_true', decide_eq_false_iff_not, h, not_true_eq_false, or_false] at this
  rw [this]
def rg (r : Int) : List (BitVec 8) := 114#8 :: ls r
/-- What is printed of a valid instruction of the form f. -/
noncomputable def fm (f : Nat) (x A B C : Int) (m : BitVec 32) : List (BitVec 8) :=
  if f = 1 then nm x
  else if f = 2 then ((((((nm x ++ [32#8]) ++ rg A) ++ [44#8, 32#8]) ++ rg B) ++ [44#8, 32#8]) ++ rg C)
  else if 32 ≤ x ∧ x ≤ 36 then (((((((nm x ++ [32#8]) ++ rg A) ++ [44#8, 32#8]) ++ ls m.toInt) ++ [40#8]) ++ rg B) ++ [41#8])
  else if f < 6 then ((((((nm x ++ [32#8]) ++ rg A) ++ [44#8, 32#8]) ++ rg B) ++ [44#8, 32#8]) ++ ls m.toInt)
  else ((((nm x ++ [32#8]) ++ rg A) ++ [44#8, 32#8]) ++ ls m.toInt)
theorem rg_len {r : Int} (h0 : 0 ≤ r) (h1 : r ≤ 15) : (rg r).length ≤ 22 := Nat.succ_le_succ (ls_len (by omega) (by omega))
theorem toInt_rng (m : BitVec 32) : -2147483648 ≤ m.toInt ∧ m.toInt ≤ 2147483647 := by
  have h1 := BitVec.le_toInt m
  have h2 := BitVec.toInt_lt (x := m)
  omega
theorem g17 {x A B C : Int} {m : BitVec 32} {f : Nat} (hf : f < 10) (h1 : G33 (x, ()) = some ((f : Int), ())) (h2 : G29 (x, ()) = some (sh f, decide (f ≠ 0), ())) :
    G17 ((x, A, B, C, m, ()), ()) = some (cond (vld f A B C m) (fm f x A B C m) [], ()) := by
  cases hv : vld f A B C m
  · unfold G17
    simp only [g13 h2, hv, Option.bind_some]
    rfl
  · obtain ⟨h0, hA, hB, hC⟩ := vld_reg hv
    obtain ⟨n1, -, n2, -, -, n3⟩ := name h1 h0
    have lA := rg_len hA.1 hA.2
    have lB := rg_len hB.1 hB.2
    have lC := rg_len hC.1 hC.2
    obtain ⟨m0, m1⟩ := toInt_rng m
    have lm := ls_len (n := m.toInt) (by omega) (by omega)
    have c1 : cv .i32 .i64 m = m.toInt := rfl
    have gA : G36 (A, ()) = some (rg A, ()) := g36 hA.1 hA.2
    have gB : G36 (B, ()) = some (rg B, ()) := g36 hB.1 hB.2
    have gC : G36 (C, ()) = some (rg C, ()) := g36 hC.1 hC.2
    have gm := g34 (n := m.toInt) (by omega) (by omega)
    unfold G17
    simp only [g13 h2, hv, h2, Option.bind_some, c1, gm, n1, gA, gB, gC, cond_true, le64]
    have fs : f = 1 ∨ f = 2 ∨ f = 3 ∨ f = 4 ∨ f = 5 ∨ f = 6 ∨ f = 7 ∨ f = 8 ∨ f = 9 := by omega
    have hj : (cond (decide (32 ≤ x)) (some (Sum.inr (decide (x ≤ 36), ()))) (some (Sum.inr (false, ()))) : Option ((List (BitVec 8) × Unit) ⊕ (Bool × Unit))) = some (Sum.inr (decide (32 ≤ x ∧ x ≤ 36), ())) := by
      by_cases h : 32 ≤ x
      · simp [h]
      · simp [h]
    rw [hj]
    simp only [jn]
    unfold fm
    by_cases hx : 32 ≤ x ∧ x ≤ 36
    · have hf3 := n3 hx
      subst hf3
      simp only [hx, and_self, decide_true, if_true, cond_true, cond_false, sh, Bool.not_true, List.length_append, List.length_cons, List.length_nil]
      simp (disch := omega) only [rm, if_true]
      rfl
    · simp only [hx, decide_false, if_false, cond_false, Bool.not_true, List.length_append, List.length_cons, List.length_nil]
      rcases fs with rfl | rfl | rfl | rfl | rfl | rfl | rfl | rfl | rfl <;> simp only [sh, cond_true, cond_false] <;> (try simp (disch := omega) only [rm, if_true]) <;> rfl
theorem g18 {x A B C : Int} {m : BitVec 32} {f : Nat} (hf : f < 10) (h1 : G33 (x, ()) = some ((f : Int), ())) :
    G18 ((x, A, B, C, m, ()), ()) = some (cond (vld f A B C m) (fm f x A B C m) [], ()) := by
  cases hv : vld f A B C m
  · unfold G18
    simp only [g28 hf h1, hv, Option.bind_some]
    rfl
  · obtain ⟨h0, hA, hB, hC⟩ := vld_reg hv
    obtain ⟨-, n1, n2, -, -, n3⟩ := name h1 h0
    have lA := rg_len hA.1 hA.2
    have lB := rg_len hB.1 hB.2
    have lC := rg_len hC.1 hC.2
    obtain ⟨m0, m1⟩ := toInt_rng m
    have lm := ls_len (n := m.toInt) (by omega) (by omega)
    have c1 : cv .i32 .i64 m = m.toInt := rfl
    have gA : G39 (A, ()) = some (rg A, ()) := g39 hA.1 hA.2
    have gB : G39 (B, ()) = some (rg B, ()) := g39 hB.1 hB.2
    have gC : G39 (C, ()) = some (rg C, ()) := g39 hC.1 hC.2
    have gm := g38 (n := m.toInt) (by omega) (by omega)
    unfold G18
    simp only [g28 hf h1, hv, h1, Option.bind_some, c1, gm, n1, gA, gB, gC, cond_true, le64, eq64]
    have fs : f = 1 ∨ f = 2 ∨ f = 3 ∨ f = 4 ∨ f = 5 ∨ f = 6 ∨ f = 7 ∨ f = 8 ∨ f = 9 := by omega
    have hj : (cond (decide (32 ≤ x)) (some (Sum.inr (decide (x ≤ 36), ()))) (some (Sum.inr (false, ()))) : Option ((List (BitVec 8) × Unit) ⊕ (Bool × Unit))) = some (Sum.inr (decide (32 ≤ x ∧ x ≤ 36), ())) := by
      by_cases h : 32 ≤ x
      · simp [h]
      · simp [h]
    rw [hj]
    simp only [jn]
    unfold fm
    by_cases hx : 32 ≤ x ∧ x ≤ 36
    · have hf3 := n3 hx
      subst hf3
      simp only [hx, and_self, decide_true, if_true, cond_true, Bool.not_true, List.length_append, List.length_cons, List.length_nil]
      simp (disch := omega) only [rm, if_true]
      rfl
    · simp only [hx, decide_false, if_false, cond_false, Bool.not_true, List.length_append, List.length_cons, List.length_nil]
      rcases fs with rfl | rfl | rfl | rfl | rfl | rfl | rfl | rfl | rfl <;> (try simp (disch := omega) only [rm, if_true]) <;> rfl
end Go.Proofs.YtamgehoiedfmeaaDoor
