/- Part of a law's proof: P8. -/
import Derived.Test.YtamgehoiedfmeaaDoorP7
namespace Go.Proofs.YtamgehoiedfmeaaDoor
open Go Go.Sy
set_option maxRecDepth 100000
theorem isaEncodes (i : Int × Int × Int × Int × BitVec 32 × Unit) (n : Int) (b : Bool) : G3 (i, n, b, ()) = some (true, ()) := by
  unfold G3
  cases b
  · exact encodes i
  · obtain ⟨j, hj, -⟩ := made n
    simp only [cond_true, hj, Option.bind_some]
    exact encodes j
theorem made_enc {i : Int × Int × Int × Int × BitVec 32 × Unit} (h : Made i) : ∃ f : Nat, f < 10 ∧ G33 (i.1, ()) = some ((f : Int), ()) ∧ G29 (i.1, ()) = some (sh f, decide (f ≠ 0), ()) ∧ vld f i.2.1 i.2.2.1 i.2.2.2.1 i.2.2.2.2.1 = true ∧
    G11 (i, ()) = some (encI i.1 i.2.1 i.2.2.1 i.2.2.2.1 i.2.2.2.2.1, 0, ()) ∧ G12 (i, ()) = some (encI i.1 i.2.1 i.2.2.1 i.2.2.2.1 i.2.2.2.2.1, true, ()) := by
  obtain ⟨f, hf, h1, h2, hv⟩ := h
  obtain ⟨x, A, B, C, m, ⟨⟩⟩ := i
  have hv' : vld f A B C m = true := hv
  refine ⟨f, hf, h1, h2, hv, ?_, ?_⟩
  · rw [g11 h2, hv', cond_true]
  · rw [g12 hf h1, hv', cond_true]
theorem isaDecodes (w : BitVec 32) (n : Int) (b : Bool) : G4 (w, n, b, ()) = some (true, ()) := by
  unfold G4
  cases b
  · exact decodes w
  · obtain ⟨j, hj, hm⟩ := made n
    obtain ⟨f, hf, h1, h2, hv, h3, h4⟩ := made_enc hm
    simp only [cond_true, hj, h4, Option.bind_some]
    exact decodes _
theorem xor_ne (w v : BitVec 32) (h : w ^^^ v = w) : v = 0#32 := by
  have : w ^^^ (w ^^^ v) = w ^^^ w := by rw [h]
  rwa [← BitVec.xor_assoc, BitVec.xor_self, BitVec.zero_xor] at this
theorem one_bit : (List.range 32).all (fun k => shl .u32 1#32 (cnt .u64 (cv .i64 .u64 (k : Int))) != 0#32) = true := by kernel_rfl
/-- A decoded word is the encoding of what it is decoded to. -/
theorem g15_enc {w : BitVec 32} {j : Int × Int × Int × Int × BitVec 32 × Unit} (h : G15 (w, ()) = some (j, true, ())) : encI j.1 j.2.1 j.2.2.1 j.2.2.2.1 j.2.2.2.2.1 = w := by
  obtain ⟨f, -, -, -, h3, -⟩ := g15' w
  rw [h3] at h
  cases hv : dV f w
  · rw [hv] at h
    simp at h
  · rw [hv] at h
    simp only [cond_true, Option.some.injEq, Prod.mk.injEq] at h
    rw [← h.1]
    exact enc_dec f w
theorem isaBits (n bit : Int) : G6 (n, bit, ()) = some (true, ()) := by
  obtain ⟨i, hi, hm⟩ := made n
  obtain ⟨f, hf, h1, h2, hv, h3, -⟩ := made_enc hm
  obtain ⟨r, hr, r0, r1⟩ := g19 bit 32 (by omega) (by omega)
  unfold G6
  simp only [hi, h3, hr, Option.bind_some, eqI_refl, Bool.not_true, cond_false]
  obtain ⟨f', -, -, -, e3, -⟩ := g15' (xorI .u32 (encI i.1 i.2.1 i.2.2.1 i.2.2.2.1 i.2.2.2.2.1) (shl .u32 1#32 (cnt .u64 (cv .i64 .u64 r))))
  cases hd : dV f' (xorI .u32 (encI i.1 i.2.1 i.2.2.1 i.2.2.2.1 i.2.2.2.2.1) (shl .u32 1#32 (cnt .u64 (cv .i64 .u64 r))))
  · rw [hd, cond_false] at e3
    simp only [e3, awake, Option.bind_some, Bool.not_false, cond_true]
  · rw [hd, cond_true] at e3
    have e4 := g15_enc e3
    simp only [e3, awake, Option.bind_some, Bool.not_true, cond_false]
    generalize dI f' _ = j at *
    cases he : eqD (.cons (.int .i64) (.cons (.int .i64) (.cons (.int .i64) (.cons (.int .i64) (.cons (.int .i32) .nil))))) j i
    · rfl
    · rw [eqInst_ne he] at e4
      have e5 := xor_ne _ _ e4.symm
      obtain ⟨k, rfl⟩ : ∃ k : Nat, r = k := ⟨r.toNat, by omega⟩
      have := List.all_eq_true.1 one_bit k (by simp; omega)
      rw [e5] at this
      exact absurd this (by decide)
end Go.Proofs.YtamgehoiedfmeaaDoor
