/- Part of a law's proof: P9. -/
import Derived.Test.YtamgehoiedfmeaaDoorP8
namespace Go.Proofs.YtamgehoiedfmeaaDoor
open Go Go.Sy
set_option maxRecDepth 100000
set_option linter.unusedSimpArgs false
theorem enc_b (o a b c m v : BitVec 32) : encW o a b c m ||| (v <<< 16) = encW o a (b ||| v) c m := by
  apply BitVec.eq_of_getLsbD_eq
  refine thirtytwo ?_
  refine ⟨?_, ?_, ?_, ?_, ?_, ?_, ?_, ?_, ?_, ?_, ?_, ?_, ?_, ?_, ?_, ?_, ?_, ?_, ?_, ?_, ?_, ?_, ?_, ?_, ?_, ?_, ?_, ?_, ?_, ?_, ?_, ?_⟩ <;>
    simp [encW, BitVec.getLsbD_ofNat, Bool.or_assoc, Bool.or_left_comm, Bool.or_comm]
theorem enc_c (o a b c m v : BitVec 32) : encW o a b c m ||| (v <<< 4) = encW o a b (c ||| (v <<< 4)) m := by
  unfold encW
  rw [BitVec.or_assoc]
theorem nar_or {k : Nat} {a b : BitVec 32} (ha : Nar k a) (hb : Nar k b) : Nar k (a ||| b) := fun i hi h => by
  rw [BitVec.getElem_or, ha i hi h, hb i hi h]
  rfl
theorem nar_sh {a : BitVec 32} (ha : Nar 4 a) : Nar 16 (a <<< 4) := fun i hi h => by
  rw [BitVec.getElem_shiftLeft]
  rw [ha (i - 4) (by omega) (by omega)]
  simp
/-- What the operations of the forms are. -/
theorem chkU_all : (List.range 301).all (fun n => match G33 ((n : Int), ()) with
    | some (f, _) => (decide (f = 2) == (decide (1 ≤ n) && decide (n ≤ 13))) && (decide (f = 0) || !(decide (n = 24) || decide (n = 48) || decide (56 ≤ n)) || !(sh f.toNat).2.1)
    | none => false) = true := by kernel_rfl
theorem ops_form {x : Int} {f : Nat} (h1 : G33 (x, ()) = some ((f : Int), ())) (h0 : f ≠ 0) :
    (f = 2 ↔ 1 ≤ x ∧ x ≤ 13) ∧ (x = 24 ∨ x = 48 ∨ 56 ≤ x → (sh f).2.1 = false) := by
  obtain ⟨hx0, hx1⟩ := form8 h1 h0
  obtain ⟨n, rfl⟩ : ∃ n : Nat, x = n := ⟨x.toNat, by omega⟩
  have hc := List.all_eq_true.1 chkU_all n (by simp; omega)
  rw [h1] at hc
  simp only [Bool.and_eq_true, Bool.or_eq_true, Bool.not_eq_true', beq_iff_eq, Int.toNat_natCast] at hc
  obtain ⟨h2, h3⟩ := hc
  constructor
  · have e : decide ((f : Int) = 2) = true ↔ decide (1 ≤ n) = true ∧ decide (n ≤ 13) = true := by rw [h2, Bool.and_eq_true]
    simp only [decide_eq_true_eq] at e
    omega
  · intro h
    rcases h3 with (h3 | h3) | h3
    · rw [decide_eq_true_eq] at h3
      omega
    · simp only [Bool.or_eq_false_iff, decide_eq_false_iff_not] at h3
      omega
    · exact h3
theorem add1 {r : Int} (h0 : 0 ≤ r) (h1 : r < 15) : add .i64 1 r = 1 + r := w64_id (by omega) (by omega)
theorem isaUnused (n c : Int) : G7 (n, c, ()) = some (true, ()) := by
  obtain ⟨i, hi, hm⟩ := made n
  obtain ⟨f, hf, h1, h2, hv, h3, -⟩ := made_enc hm
  obtain ⟨r, hr, r0, r1⟩ := g19 c 15 (by omega) (by omega)
  obtain ⟨x, A, B, C, m, ⟨⟩⟩ := i
  replace h1 : G33 (x, ()) = some ((f : Int), ()) := h1
  replace h2 : G29 (x, ()) = some (sh f, decide (f ≠ 0), ()) := h2
  replace hv : vld f A B C m = true := hv
  obtain ⟨h0, hA, hB, hC⟩ := vld_reg hv
  obtain ⟨hc, hl, hu⟩ := vld_rest hv
  obtain ⟨u1, u2⟩ := ops_form h1 h0
  have hx := form8 h1 h0
  obtain ⟨v, hv4, hvn, hcv, hvi⟩ : ∃ v : BitVec 32, Nar 4 v ∧ (v.toNat : Int) = 1 + r ∧ cv .i64 .u32 (1 + r) = v ∧ cv .i64 .i32 (1 + r) = v :=
    ⟨BitVec.ofInt 32 (1 + r), nar_int (by omega) (by omega) (by omega), ofInt_nat (by omega) (by omega), rfl, rfl⟩
  have nx := nar_int (n := 8) hx.1 (by omega) (by omega)
  have nA := nar_int (n := 4) hA.1 (by omega) (by omega)
  have nB := nar_int (n := 4) hB.1 (by omega) (by omega)
  have nC := nar_mono (k := 16) (nar_int (n := 4) hC.1 (by omega) (by omega)) (by omega)
  have s4 : ∀ w : BitVec 32, shl .u32 w (cnt .u64 4#64) = w <<< 4 := fun _ => rfl
  have s16 : ∀ w : BitVec 32, shl .u32 w (cnt .u64 16#64) = w <<< 16 := fun _ => rfl
  have oi : ∀ a b : BitVec 32, orI .u32 a b = a ||| b := fun _ _ => rfl
  have gv : ∀ (C : Int) (m : BitVec 32), G13 ((x, A, B, C, m, ()), ()) = some (vld f A B C m, ()) := fun _ _ => g13 h2
  unfold G7
  simp only [hi, h3, hr, Option.bind_some, add1 r0 r1, hcv, hvi, s4, s16, oi, gv, encI, enc_b, enc_c]
  have xo : ((BitVec.ofInt 32 x).toNat : Int) = x := ofInt_nat hx.1 (by omega)
  have d4 : f = 2 → G15 (encW (BitVec.ofInt 32 x) (BitVec.ofInt 32 A) (BitVec.ofInt 32 B) (BitVec.ofInt 32 C ||| v <<< 4) m, ()) = some (zI, false, ()) := fun e2 => by
    have nC' := nar_or nC (nar_sh hv4)
    have eo := dec_o (m := m) nx nA nB nC'
    have e1 : G29 (((dO (encW (BitVec.ofInt 32 x) (BitVec.ofInt 32 A) (BitVec.ofInt 32 B) (BitVec.ofInt 32 C ||| v <<< 4) m)).toNat : Int), ()) = some (sh f, decide (f ≠ 0), ()) := by
      show G29 (((_ &&& 255#32 : BitVec 32).toNat : Int), ()) = _
      rw [eo, xo]
      exact h2
    have el := dec_l (o := BitVec.ofInt 32 x) (a := BitVec.ofInt 32 A) (b := BitVec.ofInt 32 B) (m := m) nC'
    rw [g15 hf e1]
    have : dV f (encW (BitVec.ofInt 32 x) (BitVec.ofInt 32 A) (BitVec.ofInt 32 B) (BitVec.ofInt 32 C ||| v <<< 4) m) = false := by
      rw [← Bool.not_eq_true]
      intro hd
      have h5 := (vld_reg hd).2.2.2.2
      subst e2
      have h6 : dC 2 (encW (BitVec.ofInt 32 x) (BitVec.ofInt 32 A) (BitVec.ofInt 32 B) (BitVec.ofInt 32 C ||| v <<< 4) m) = (((m &&& 65535#32) ||| (BitVec.ofInt 32 C ||| v <<< 4)).toNat : Int) := congrArg (fun q : BitVec 32 => (q.toNat : Int)) el
      rw [h6, BitVec.toNat_or, BitVec.toNat_or] at h5
      have h7 := Nat.right_le_or (n := (m &&& 65535#32).toNat) (m := (BitVec.ofInt 32 C).toNat ||| (v <<< 4).toNat)
      have h8 := Nat.right_le_or (n := (BitVec.ofInt 32 C).toNat) (m := (v <<< 4).toNat)
      have h9 : (v <<< 4).toNat = v.toNat * 16 := by
        rw [BitVec.toNat_shiftLeft, Nat.shiftLeft_eq, Nat.mod_eq_of_lt (by omega)]
      omega
    rw [this]
    rfl
  have d16 : (sh f).2.1 = false → G15 (encW (BitVec.ofInt 32 x) (BitVec.ofInt 32 A) (BitVec.ofInt 32 B ||| v) (BitVec.ofInt 32 C) m, ()) = some (zI, false, ()) := fun e2 => by
    have nB' := nar_or nB hv4
    have eo := dec_o (m := m) nx nA nB' nC
    have e1 : G29 (((dO (encW (BitVec.ofInt 32 x) (BitVec.ofInt 32 A) (BitVec.ofInt 32 B ||| v) (BitVec.ofInt 32 C) m)).toNat : Int), ()) = some (sh f, decide (f ≠ 0), ()) := by
      show G29 (((_ &&& 255#32 : BitVec 32).toNat : Int), ()) = _
      rw [eo, xo]
      exact h2
    have eb := dec_b (o := BitVec.ofInt 32 x) (a := BitVec.ofInt 32 A) (m := m) nB' nC
    rw [g15 hf e1]
    have : dV f (encW (BitVec.ofInt 32 x) (BitVec.ofInt 32 A) (BitVec.ofInt 32 B ||| v) (BitVec.ofInt 32 C) m) = false := by
      rw [← Bool.not_eq_true]
      intro hd
      have h5 : reg ((dB (encW (BitVec.ofInt 32 x) (BitVec.ofInt 32 A) (BitVec.ofInt 32 B ||| v) (BitVec.ofInt 32 C) m)).toNat : Int) (sh f).2.1 = true := by
        unfold dV vld at hd
        simp only [Bool.and_eq_true] at hd
        exact hd.1.1.1.2
      have h6 : ((dB (encW (BitVec.ofInt 32 x) (BitVec.ofInt 32 A) (BitVec.ofInt 32 B ||| v) (BitVec.ofInt 32 C) m)).toNat : Int) = ((BitVec.ofInt 32 B ||| v).toNat : Int) := congrArg (fun q : BitVec 32 => (q.toNat : Int)) eb
      rw [e2, h6, BitVec.toNat_or] at h5
      have h7 : (((BitVec.ofInt 32 B).toNat ||| v.toNat : Nat) : Int) = 0 := by simpa [reg] using h5
      have h8 := Nat.right_le_or (n := (BitVec.ofInt 32 B).toNat) (m := v.toNat)
      omega
    rw [this]
    rfl
  rw [awake]
  by_cases hx13 : 1 ≤ x ∧ x ≤ 13
  · have e2 : f = 2 := u1.2 hx13
    have hz : vld f A B C v = false := by
      rw [← Bool.not_eq_true]
      intro hd
      have h5 := (vld_rest hd).2.2
      subst e2
      have h6 : v.toInt ≤ 0 := by
        rw [sle_int, decide_eq_true_eq] at h5
        exact h5
      rw [BitVec.toInt_eq_toNat_of_lt (by omega)] at h6
      omega
    have l1 : leI .i64 1 x = true := by rw [le64, decide_eq_true_eq]; exact hx13.1
    have l2 : leI .i64 x 13 = true := by rw [le64, decide_eq_true_eq]; exact hx13.2
    simp only [l1, l2, cond_true, d4 e2, hz, Option.bind_some, Bool.not_false, jn]
  · have e2 : f ≠ 2 := fun e => hx13 (u1.1 e)
    have l1 : cond (leI .i64 1 x) (cond (leI .i64 x 13) false true) true = true := by
      rw [le64, le64]
      by_cases h : 1 ≤ x
      · rw [decide_eq_true h, decide_eq_false (by omega)]; rfl
      · rw [decide_eq_false h]; rfl
    have hz : vld f A B (1 + r) m = false := by
      rw [← Bool.not_eq_true]
      intro hd
      have h5 := (vld_rest hd).1
      have fs : (sh f).2.2.1 = false := by
        have fs : f = 0 ∨ f = 1 ∨ f = 2 ∨ f = 3 ∨ f = 4 ∨ f = 5 ∨ f = 6 ∨ f = 7 ∨ f = 8 ∨ f = 9 := by omega
        rcases fs with rfl | rfl | rfl | rfl | rfl | rfl | rfl | rfl | rfl | rfl <;> first | rfl | exact absurd rfl e2
      rw [fs] at h5
      have : 1 + r = 0 := by simpa [reg] using h5
      omega
    have hq : ∀ X : Option (Sum (Bool × Unit) Unit), cond (leI .i64 1 x) (cond (leI .i64 x 13) X (some (Sum.inr ()))) (some (Sum.inr ())) = some (Sum.inr ()) := fun X => by
      cases h3 : leI .i64 1 x <;> cases h4 : leI .i64 x 13 <;> rw [h3, h4] at l1 <;> first | rfl | cases l1
    rw [hq]
    simp only [jn, hz, Option.bind_some, cond_false, eq64, le64]
    by_cases k1 : x = 24
    · simp only [decide_eq_true k1, cond_true, d16 (u2 (.inl k1)), Option.bind_some, Bool.not_false]
    · by_cases k2 : x = 48
      · simp only [decide_eq_false k1, decide_eq_true k2, cond_false, cond_true, d16 (u2 (.inr (.inl k2))), Option.bind_some, Bool.not_false]
      · by_cases k3 : 56 ≤ x
        · simp only [decide_eq_false k1, decide_eq_false k2, decide_eq_true k3, cond_false, cond_true, d16 (u2 (.inr (.inr k3))), Option.bind_some, Bool.not_false]
        · simp only [decide_eq_false k1, decide_eq_false k2, decide_eq_false k3, cond_false, Option.bind_some]
end Go.Proofs.YtamgehoiedfmeaaDoor
