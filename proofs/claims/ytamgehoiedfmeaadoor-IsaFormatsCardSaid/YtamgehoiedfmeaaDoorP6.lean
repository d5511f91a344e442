/- Part of a law's proof: P6. -/
import Derived.Test.YtamgehoiedfmeaaDoorP5
namespace Go.Proofs.YtamgehoiedfmeaaDoor
open Go Go.Sy
set_option maxRecDepth 100000
set_option linter.unusedSimpArgs false
theorem fields {x A B C : Int} {m : BitVec 32} {f : Nat} (hx : 0 ≤ x ∧ x < 256) (hv : vld f A B C m = true) :
    dO (encI x A B C m) = BitVec.ofInt 32 x ∧ dA (encI x A B C m) = BitVec.ofInt 32 A ∧ dB (encI x A B C m) = BitVec.ofInt 32 B ∧ dL (encI x A B C m) = (m &&& 65535#32) ||| BitVec.ofInt 32 C := by
  obtain ⟨-, hA, hB, hC⟩ := vld_reg hv
  have nx := nar_int (n := 8) hx.1 (by omega) (by omega)
  have nA := nar_int (n := 4) hA.1 (by omega) (by omega)
  have nB := nar_int (n := 4) hB.1 (by omega) (by omega)
  have nC := nar_mono (k := 16) (nar_int (n := 4) hC.1 (by omega) (by omega)) (by omega)
  exact ⟨dec_o nx nA nB nC, dec_a nA nB nC, dec_b nB nC, dec_l nC⟩
theorem vld_rest {f : Nat} {A B C : Int} {m : BitVec 32} (h : vld f A B C m = true) : reg C (sh f).2.2.1 = true ∧ (sh f).2.2.2.1.sle m = true ∧ m.sle (sh f).2.2.2.2.1 = true := by
  unfold vld at h
  simp only [Bool.and_eq_true, decide_eq_true_eq] at h
  exact ⟨h.1.1.2, h.1.2, h.2⟩
theorem dec_enc {x A B C : Int} {m : BitVec 32} {f : Nat} (hf : f < 10) (hx : 0 ≤ x ∧ x < 256) (hv : vld f A B C m = true) :
    ((dO (encI x A B C m)).toNat : Int) = x ∧ dI f (encI x A B C m) = (x, A, B, C, m, ()) ∧ dV f (encI x A B C m) = true := by
  obtain ⟨h0, hA, hB, hC⟩ := vld_reg hv
  obtain ⟨hc, h1, h2⟩ := vld_rest hv
  obtain ⟨eo, ea, eb, el⟩ := fields hx hv
  have xo : ((dO (encI x A B C m)).toNat : Int) = x := by rw [eo, ofInt_nat hx.1 (by omega)]
  have xa : ((dA (encI x A B C m)).toNat : Int) = A := by rw [ea, ofInt_nat hA.1 (by omega)]
  have xb : ((dB (encI x A B C m)).toNat : Int) = B := by rw [eb, ofInt_nat hB.1 (by omega)]
  have xcm : dC f (encI x A B C m) = C ∧ dM f (encI x A B C m) = m := by
    have fs : f = 0 ∨ f = 1 ∨ f = 2 ∨ f = 3 ∨ f = 4 ∨ f = 5 ∨ f = 6 ∨ f = 7 ∨ f = 8 ∨ f = 9 := by omega
    have zC : (sh f).2.2.1 = false → C = 0 := fun h => by
      rw [h] at hc
      simpa [reg] using hc
    have z32 : BitVec.ofInt 32 0 = 0#32 := rfl
    have sm : ∀ a b : BitVec 32, a.sle b = true → b.sle a = true → a = b := fun a b h h' => by
      rw [sle_int, decide_eq_true_eq] at h h'
      exact BitVec.eq_of_toInt_eq (by omega)
    have tr : ∀ k : BitVec 32, k.sle 65535#32 = true → m.sle k = true → m.sle 65535#32 = true := fun k h h' => by
      rw [sle_int, decide_eq_true_eq] at *
      omega
    unfold dC dM
    rw [el]
    rcases fs with rfl | rfl | rfl | rfl | rfl | rfl | rfl | rfl | rfl | rfl
    · exact absurd rfl h0
    case inr.inr.inl =>
      have hm : m = 0#32 := sm _ _ h2 h1
      subst hm
      refine ⟨?_, rfl⟩
      show (((0#32 &&& 65535#32) ||| BitVec.ofInt 32 C).toNat : Int) = C
      rw [BitVec.zero_and, BitVec.zero_or, ofInt_nat hC.1 (by omega)]
    all_goals
      rw [zC rfl, z32, BitVec.or_zero]
      simp only [Nat.reduceBEq, cond_false, Bool.false_or, Bool.or_false, cond_true, true_and]
    · exact lo_of h1 (tr _ (by decide) h2)
    · exact sx_of h1 h2
    · exact lo_of h1 (tr _ (by decide) h2)
    · exact lo_of h1 (tr _ (by decide) h2)
    · exact lo_of h1 (tr _ (by decide) h2)
    · exact sx_of h1 h2
    · exact lo_of h1 (tr _ (by decide) h2)
    · exact lo_of h1 (tr _ (by decide) h2)
  refine ⟨xo, ?_, ?_⟩
  · unfold dI
    rw [xo, xa, xb, xcm.1, xcm.2]
  · unfold dV
    rw [xa, xb, xcm.1, xcm.2, hv]
/-- A word that is decoded is in form by its own operation. -/
theorem g15' (w : BitVec 32) : ∃ f : Nat, f < 10 ∧ G33 (((dO w).toNat : Int), ()) = some ((f : Int), ()) ∧ G29 (((dO w).toNat : Int), ()) = some (sh f, decide (f ≠ 0), ()) ∧
    G15 (w, ()) = cond (dV f w) (some (dI f w, true, ())) (some (zI, false, ())) ∧ G16 (w, ()) = cond (dV f w) (some (dI f w, true, ())) (some (zI, false, ())) := by
  obtain ⟨f, hf, h1, h2⟩ := form ((dO w).toNat : Int)
  exact ⟨f, hf, h1, h2, g15 hf h2, g16 hf h1⟩
theorem eqI_refl (x : Int) : eqI .i64 x x = true := by rw [eq64, decide_eq_true_eq]
theorem eqW_refl (x : BitVec 32) : eqI .u32 x x = true := by show decide _ = true; rw [decide_eq_true_eq]
theorem eqW'_refl (x : BitVec 32) : eqI .i32 x x = true := by show decide _ = true; rw [decide_eq_true_eq]
theorem eqInst_refl (i : Int × Int × Int × Int × BitVec 32 × Unit) : eqD (.cons (.int .i64) (.cons (.int .i64) (.cons (.int .i64) (.cons (.int .i64) (.cons (.int .i32) .nil))))) i i = true := by
  obtain ⟨a, b, c, d, e, ⟨⟩⟩ := i
  simp only [eqD, eqI_refl, eqW'_refl]
  rfl
theorem eqInst_ne {i j : Int × Int × Int × Int × BitVec 32 × Unit} (h : eqD (.cons (.int .i64) (.cons (.int .i64) (.cons (.int .i64) (.cons (.int .i64) (.cons (.int .i32) .nil))))) i j = true) : i = j := by
  obtain ⟨a, b, c, d, e, ⟨⟩⟩ := i
  obtain ⟨a', b', c', d', e', ⟨⟩⟩ := j
  simp only [eqD, Bool.and_eq_true, eq64, decide_eq_true_eq] at h
  obtain ⟨rfl, rfl, rfl, rfl, h, -⟩ := h
  have : e = e' := of_decide_eq_true h
  rw [this]
/-- IsaDecodes for a word. -/
theorem decodes (w : BitVec 32) :
  ((G15 (w, ())).bind fun r4 =>
  (G16 (w, ())).bind fun r5 =>
  let v6 := (!(eqD (.cons (.int .i64) (.cons (.int .i64) (.cons (.int .i64) (.cons (.int .i64) (.cons (.int .i32) .nil))))) r4.1 r5.1))
  cond v6
  (some (false, ()))
  (cond (!(r4.2.1 == r5.2.1))
   (some (false, ()))
   (cond (!r4.2.1)
    ((G14 ()).bind fun r7 =>
     some (r7.1, ()))
    ((G11 (r4.1, ())).bind fun r8 =>
     cond (eqI .i64 r8.2.1 (0 : Int))
     (cond (eqI .u32 r8.1 w)
      ((G14 ()).bind fun r9 =>
       some (r9.1, ()))
      (some (false, ())))
     (some (false, ())))))) = some (true, ()) := by
  obtain ⟨f, hf, h1, h2, h3, h4⟩ := g15' w
  rw [h3, h4, awake]
  cases hv : dV f w
  · rfl
  · simp only [cond_true, Option.bind_some, eqInst_refl, Bool.not_true, cond_false, beq_self_eq_true]
    have e : G11 (dI f w, ()) = some (w, 0, ()) := by
      unfold dI
      rw [g11 h2]
      have : vld f ((dA w).toNat : Int) ((dB w).toNat : Int) (dC f w) (dM f w) = true := hv
      rw [this, cond_true, enc_dec]
    rw [e]
    simp only [Option.bind_some, eqI_refl, eqW_refl, cond_true]
/-- IsaEncodes for an instruction. -/
theorem encodes (i : Int × Int × Int × Int × BitVec 32 × Unit) :
  ((G11 (i, ())).bind fun r3 =>
  (G12 (i, ())).bind fun r4 =>
  jn (R := (Bool) × (Unit)) (Z := Unit)
  ((G13 (i, ())).bind fun r6 =>
   cond (!(r6.1 == r4.2.1))
   (some (Sum.inl (false, ())))
   (cond (!eqI .u32 r3.1 r4.1)
    (some (Sum.inl (false, ())))
    (cond (!((eqI .i64 r3.2.1 (0 : Int)) == r4.2.1))
     (some (Sum.inl (false, ())))
     (cond (!r4.2.1)
      (cond (!eqI .i64 r3.2.1 (200 : Int))
       (some (Sum.inl (false, ())))
       (some (Sum.inr ())))
      (some (Sum.inr ()))))))
  fun _ =>
  cond (!r4.2.1)
  ((G14 ()).bind fun r7 =>
   some (r7.1, ()))
  ((G15 (r3.1, ())).bind fun r8 =>
   cond r8.2.1
   (let v9 := (eqD (.cons (.int .i64) (.cons (.int .i64) (.cons (.int .i64) (.cons (.int .i64) (.cons (.int .i32) .nil))))) r8.1 i)
    cond v9
    ((G14 ()).bind fun r10 =>
     some (r10.1, ()))
    (some (false, ())))
   (some (false, ())))) = some (true, ()) := by
  obtain ⟨x, A, B, C, m, ⟨⟩⟩ := i
  obtain ⟨f, hf, h1, h2⟩ := form x
  rw [g11 h2, g12 hf h1, g13 h2, awake]
  cases hv : vld f A B C m
  · rfl
  · have hx := form8 h1 (vld_reg hv).1
    obtain ⟨e1, e2, e3⟩ := dec_enc hf hx hv
    rw [← e1] at h1 h2
    have e4 := g15 hf h2
    rw [e3, e2, cond_true] at e4
    simp only [cond_true, Option.bind_some, beq_self_eq_true, Bool.not_true, cond_false, eqW_refl, eqI_refl, jn, e4, eqInst_refl]
end Go.Proofs.YtamgehoiedfmeaaDoor
