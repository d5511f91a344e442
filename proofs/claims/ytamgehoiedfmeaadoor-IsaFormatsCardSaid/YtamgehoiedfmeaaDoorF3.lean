/- Part of a law's proof: F3. -/
import Derived.Test.YtamgehoiedfmeaaDoorF2
namespace Go.Proofs.YtamgehoiedfmeaaDoor
open Go Go.Sy
set_option maxRecDepth 100000
/-- Two texts that are cut at the same sign's first place. -/
theorem cut {s : BitVec 8} : ∀ {a a' b b' : List (BitVec 8)}, s ∉ a → s ∉ a' → a ++ s :: b = a' ++ s :: b' → a = a' ∧ b = b'
  | [], [], _, _, _, _, h => ⟨rfl, (List.cons.inj h).2⟩
  | [], _ :: _, _, _, _, h2, h => absurd ((List.cons.inj h).1 ▸ List.mem_cons_self) h2
  | _ :: _, [], _, _, h1, _, h => absurd ((List.cons.inj h).1 ▸ List.mem_cons_self) h1
  | c :: a, c' :: a', _, _, h1, h2, h => by
    obtain ⟨e1, e2⟩ := List.cons.inj h
    obtain ⟨e3, e4⟩ := cut (fun hm => h1 (List.mem_cons_of_mem _ hm)) (fun hm => h2 (List.mem_cons_of_mem _ hm)) e2
    exact ⟨by rw [e1, e3], e4⟩
/-- What follows the name. -/
def rest (f : Nat) (x A B C : Int) (m : BitVec 32) : List (BitVec 8) :=
  if f = 2 then 114#8 :: (ls A ++ 44#8 :: 32#8 :: 114#8 :: (ls B ++ 44#8 :: 32#8 :: 114#8 :: ls C))
  else if 32 ≤ x ∧ x ≤ 36 then 114#8 :: (ls A ++ 44#8 :: 32#8 :: (ls m.toInt ++ 40#8 :: 114#8 :: (ls B ++ 41#8 :: [])))
  else if f < 6 then 114#8 :: (ls A ++ 44#8 :: 32#8 :: 114#8 :: (ls B ++ 44#8 :: 32#8 :: ls m.toInt))
  else 114#8 :: (ls A ++ 44#8 :: 32#8 :: ls m.toInt)
theorem fm_eq (f : Nat) (x A B C : Int) (m : BitVec 32) : fm f x A B C m = if f = 1 then nm x else nm x ++ 32#8 :: rest f x A B C m := by
  unfold fm rest rg
  split
  · rfl
  · split
    · simp only [List.append_assoc, List.cons_append, List.nil_append]
    · split
      · simp only [List.append_assoc, List.cons_append, List.nil_append]
      · split
        · simp only [List.append_assoc, List.cons_append, List.nil_append]
        · simp only [List.append_assoc, List.cons_append, List.nil_append]
theorem ls_no41 {n : Int} : 41#8 ∉ ls n := by
  intro hc
  have e2 : (41#8).toNat = 41 := rfl
  rcases ls_char n _ hc with h1 | h1
  · exact absurd h1 (by decide)
  · omega
/-- The form's unused fields are zero. -/
theorem unused {f : Nat} {A B C : Int} {m : BitVec 32} (hv : vld f A B C m = true) : ((sh f).1 = false → A = 0) ∧ ((sh f).2.1 = false → B = 0) ∧ ((sh f).2.2.1 = false → C = 0) ∧ (f = 1 ∨ f = 2 → m = 0#32) := by
  have hz : ∀ r, reg r false = true → r = 0 := fun r h => by simpa [reg] using h
  obtain ⟨hc, hl, hu⟩ := vld_rest hv
  unfold vld at hv
  simp only [Bool.and_eq_true] at hv
  obtain ⟨⟨⟨⟨⟨-, h1⟩, h2⟩, -⟩, -⟩, -⟩ := hv
  refine ⟨fun h => ?_, fun h => ?_, fun h => ?_, fun h => ?_⟩
  · rw [h] at h1; exact hz _ h1
  · rw [h] at h2; exact hz _ h2
  · rw [h] at hc; exact hz _ hc
  · rw [sle_int, decide_eq_true_eq] at hl hu
    have e : (0#32).toInt = 0 := rfl
    rcases h with rfl | rfl
    · have : m.toInt ≤ 0 := hu
      have : 0 ≤ m.toInt := hl
      exact BitVec.eq_of_toInt_eq (by omega)
    · have : m.toInt ≤ 0 := hu
      have : 0 ≤ m.toInt := hl
      exact BitVec.eq_of_toInt_eq (by omega)
theorem rest_inj {f : Nat} {x A B C A' B' C' : Int} {m m' : BitVec 32} (hf : f < 10) (h1 : f ≠ 1) (hx : 32 ≤ x ∧ x ≤ 36 → f = 3) (hv : vld f A B C m = true) (hv' : vld f A' B' C' m' = true)
    (h : rest f x A B C m = rest f x A' B' C' m') : A = A' ∧ B = B' ∧ C = C' ∧ m = m' := by
  obtain ⟨a1, a2, a3, a4⟩ := unused hv
  obtain ⟨b1, b2, b3, b4⟩ := unused hv'
  have h0 := (vld_reg hv).1
  have mi : ∀ {m m' : BitVec 32}, ls m.toInt = ls m'.toInt → m = m' := fun h => BitVec.eq_of_toInt_eq (ls_inj h)
  unfold rest at h
  by_cases h2 : f = 2
  · simp only [h2, if_true] at h
    obtain ⟨e1, e2⟩ := cut (ls_no (.inr (.inr rfl))) (ls_no (.inr (.inr rfl))) (List.cons.inj h).2
    obtain ⟨e3, e4⟩ := cut (ls_no (.inr (.inr rfl))) (ls_no (.inr (.inr rfl))) (List.cons.inj (List.cons.inj e2).2).2
    have e5 := (List.cons.inj (List.cons.inj e4).2).2
    exact ⟨ls_inj e1, ls_inj e3, ls_inj e5, by rw [a4 (.inr h2), b4 (.inr h2)]⟩
  · by_cases h3 : 32 ≤ x ∧ x ≤ 36
    · have hf3 := hx h3
      subst hf3
      simp only [h2, h3, and_self, if_true, if_false] at h
      obtain ⟨e1, e2⟩ := cut (ls_no (.inr (.inr rfl))) (ls_no (.inr (.inr rfl))) (List.cons.inj h).2
      obtain ⟨e3, e4⟩ := cut (ls_no (.inr (.inl rfl))) (ls_no (.inr (.inl rfl))) (List.cons.inj e2).2
      obtain ⟨e5, -⟩ := cut ls_no41 ls_no41 (List.cons.inj e4).2
      exact ⟨ls_inj e1, ls_inj e5, by rw [a3 rfl, b3 rfl], mi e3⟩
    · by_cases h4 : f < 6
      · simp only [h2, h3, h4, if_true, if_false] at h
        obtain ⟨e1, e2⟩ := cut (ls_no (.inr (.inr rfl))) (ls_no (.inr (.inr rfl))) (List.cons.inj h).2
        obtain ⟨e3, e4⟩ := cut (ls_no (.inr (.inr rfl))) (ls_no (.inr (.inr rfl))) (List.cons.inj (List.cons.inj e2).2).2
        have e5 := (List.cons.inj e4).2
        have hc : (sh f).2.2.1 = false := by
          have fs : f = 3 ∨ f = 4 ∨ f = 5 := by omega
          rcases fs with rfl | rfl | rfl <;> rfl
        exact ⟨ls_inj e1, ls_inj e3, by rw [a3 hc, b3 hc], mi e5⟩
      · simp only [h2, h3, h4, if_false] at h
        obtain ⟨e1, e2⟩ := cut (ls_no (.inr (.inr rfl))) (ls_no (.inr (.inr rfl))) (List.cons.inj h).2
        have e5 := (List.cons.inj e2).2
        have hc : (sh f).2.2.1 = false ∧ (sh f).2.1 = false := by
          have fs : f = 6 ∨ f = 7 ∨ f = 8 ∨ f = 9 := by omega
          rcases fs with rfl | rfl | rfl | rfl <;> exact ⟨rfl, rfl⟩
        exact ⟨ls_inj e1, by rw [a2 hc.2, b2 hc.2], by rw [a3 hc.1, b3 hc.1], mi e5⟩
theorem fm_inj {f g : Nat} {x y A B C A' B' C' : Int} {m m' : BitVec 32} (hf : f < 10) (h1 : G33 (x, ()) = some ((f : Int), ())) (h2 : G33 (y, ()) = some ((g : Int), ())) (hv : vld f A B C m = true) (hv' : vld g A' B' C' m' = true)
    (h : fm f x A B C m = fm g y A' B' C' m') : x = y ∧ A = A' ∧ B = B' ∧ C = C' ∧ m = m' := by
  have h0 := (vld_reg hv).1
  have h0' := (vld_reg hv').1
  obtain ⟨-, -, -, s1, -, x3⟩ := name h1 h0
  obtain ⟨-, -, -, s2, -, -⟩ := name h2 h0'
  have done : x = y → (f ≠ 1 → rest f x A B C m = rest g y A' B' C' m') → x = y ∧ A = A' ∧ B = B' ∧ C = C' ∧ m = m' := fun e hr => by
    subst e
    have efg : f = g := by
      rw [h1] at h2
      simp only [Option.some.injEq, Prod.mk.injEq] at h2
      omega
    subst efg
    refine ⟨rfl, ?_⟩
    by_cases e1 : f = 1
    · obtain ⟨a1, a2, a3, a4⟩ := unused hv
      obtain ⟨b1, b2, b3, b4⟩ := unused hv'
      subst e1
      rw [a1 rfl, a2 rfl, a3 rfl, a4 (.inl rfl), b1 rfl, b2 rfl, b3 rfl, b4 (.inl rfl)]
      exact ⟨rfl, rfl, rfl, rfl⟩
    · exact rest_inj hf e1 x3 hv hv' (hr e1)
  rw [fm_eq, fm_eq] at h
  by_cases e1 : f = 1
  · by_cases e2 : g = 1
    · rw [if_pos e1, if_pos e2] at h
      exact done (nm_inj h1 h0 h2 h0' h) (fun e => absurd e1 e)
    · rw [if_pos e1, if_neg e2] at h
      exact absurd (by rw [h]; simp) s1
  · by_cases e2 : g = 1
    · rw [if_neg e1, if_pos e2] at h
      exact absurd (by rw [← h]; simp) s2
    · rw [if_neg e1, if_neg e2] at h
      obtain ⟨e3, e4⟩ := cut s1 s2 h
      exact done (nm_inj h1 h0 h2 h0' e3) (fun _ => e4)
theorem fm_ne {f : Nat} {x A B C : Int} {m : BitVec 32} (h1 : G33 (x, ()) = some ((f : Int), ())) (h0 : f ≠ 0) : fm f x A B C m ≠ [] := by
  obtain ⟨-, -, -, -, s, -⟩ := name h1 h0
  rw [fm_eq]
  split
  · exact s
  · simp
/-- IsaFormats for two instructions. -/
theorem formats (z1 : (Int × Int × Int × Int × BitVec 32 × Unit) × (Int × Int × Int × Int × BitVec 32 × Unit) × Unit) :
  ((G17 (z1.1, ())).bind fun r4 =>
  (G17 (z1.2.1, ())).bind fun r5 =>
  (G18 (z1.1, ())).bind fun r6 =>
  cond (!(decide (r4.1 = r6.1)))
  (some (false, ()))
  ((G18 (z1.2.1, ())).bind fun r7 =>
   cond (!(decide (r5.1 = r7.1)))
   (some (false, ()))
   (cond (decide (r4.1 = ([] : List (BitVec 8))))
    ((G13 (z1.1, ())).bind fun r8 =>
     cond (!((decide (r4.1 = ([] : List (BitVec 8)))) == r8.1))
     ((G14 ()).bind fun r9 =>
      some (r9.1, ()))
     (some (false, ())))
    (let v10 := (eqD (.cons (.int .i64) (.cons (.int .i64) (.cons (.int .i64) (.cons (.int .i64) (.cons (.int .i32) .nil))))) z1.1 z1.2.1)
     cond ((decide (r4.1 = r5.1)) == v10)
     ((G13 (z1.1, ())).bind fun r11 =>
      cond (!((decide (r4.1 = ([] : List (BitVec 8)))) == r11.1))
      ((G14 ()).bind fun r12 =>
       some (r12.1, ()))
      (some (false, ())))
     (some (false, ())))))) = some (true, ()) := by
  obtain ⟨i, j, ⟨⟩⟩ := z1
  obtain ⟨x, A, B, C, m, ⟨⟩⟩ := i
  obtain ⟨y, A', B', C', m', ⟨⟩⟩ := j
  obtain ⟨f, hf, h1, h2⟩ := form x
  obtain ⟨g, hg, k1, k2⟩ := form y
  simp only [g17 hf h1 h2, g17 hg k1 k2, g18 hf h1, g18 hg k1, g13 h2, awake, Option.bind_some, decide_true, Bool.not_true, cond_false]
  cases hv : vld f A B C m
  · rfl
  · have hn := fm_ne (A := A) (B := B) (C := C) (m := m) h1 (vld_reg hv).1
    have hi : decide (fm f x A B C m = cond (vld g A' B' C' m') (fm g y A' B' C' m') []) = eqD (.cons (.int .i64) (.cons (.int .i64) (.cons (.int .i64) (.cons (.int .i64) (.cons (.int .i32) .nil))))) (x, A, B, C, m, ()) (y, A', B', C', m', ()) := by
      rw [Bool.eq_iff_iff, decide_eq_true_eq]
      constructor
      · intro h
        cases hv' : vld g A' B' C' m' <;> rw [hv'] at h
        · exact absurd h hn
        · obtain ⟨rfl, rfl, rfl, rfl, rfl⟩ := fm_inj hf h1 k1 hv hv' h
          exact eqInst_refl _
      · intro h
        have e := eqInst_ne h
        simp only [Prod.mk.injEq] at e
        obtain ⟨rfl, rfl, rfl, rfl, rfl, -⟩ := e
        have efg : f = g := by
          rw [h1] at k1
          simp only [Option.some.injEq, Prod.mk.injEq] at k1
          omega
        subst efg
        rw [hv]
        rfl
    rw [cond_true, decide_eq_false hn, hi]
    simp only [beq_self_eq_true, cond_true, cond_false]
    rfl
theorem isaFormats (i j : Int × Int × Int × Int × BitVec 32 × Unit) (n k : Int) (b : Bool) : G5 (i, j, n, k, b, ()) = some (true, ()) := by
  unfold G5
  cases b
  · exact formats (i, j, ())
  · obtain ⟨i', hi, -⟩ := made n
    obtain ⟨j', hj, -⟩ := made k
    simp only [cond_true, hi, hj, Option.bind_some]
    exact formats (i', j', ())
end Go.Proofs.YtamgehoiedfmeaaDoor
