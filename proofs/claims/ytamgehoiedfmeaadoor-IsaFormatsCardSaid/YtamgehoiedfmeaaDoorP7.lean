/- Part of a law's proof: P7. -/
import Derived.Test.YtamgehoiedfmeaaDoorP6
namespace Go.Proofs.YtamgehoiedfmeaaDoor
open Go Go.Sy
set_option maxRecDepth 100000
def ops : List Int := [(1 : Int), (2 : Int), (3 : Int), (4 : Int), (5 : Int), (6 : Int), (7 : Int), (8 : Int), (9 : Int), (10 : Int), (11 : Int), (12 : Int), (13 : Int), (16 : Int), (16 : Int), (17 : Int), (18 : Int), (19 : Int), (20 : Int), (21 : Int), (22 : Int), (23 : Int), (24 : Int), (24 : Int), (32 : Int), (32 : Int), (33 : Int), (34 : Int), (35 : Int), (35 : Int), (36 : Int), (40 : Int), (41 : Int), (42 : Int), (43 : Int), (44 : Int), (45 : Int), (48 : Int), (49 : Int), (56 : Int), (57 : Int), (58 : Int), (59 : Int), (60 : Int), (60 : Int), (61 : Int), (61 : Int), (62 : Int), (63 : Int), (64 : Int)]
def body (op a b c d t : Int) : Option ((Int × Int × Int × Int × BitVec 32 × Unit) × Unit) :=
  cond (leI .i64 op (13 : Int))
  (some ((op, (a, (b, (c, ((0#32), ()))))), ()))
  (jn (R := ((Int) × ((Int) × ((Int) × ((Int) × ((BitVec 32) × (Unit)))))) × (Unit)) (Z := (Bool) × (Unit))
   (cond (leI .i64 (40 : Int) op)
    (some (Sum.inr ((leI .i64 op (48 : Int)), ())))
    (some (Sum.inr (false, ()))))
   fun z8 =>
   cond z8.1
   (cond (eqI .i64 op (48 : Int))
    (some ((op, (a, ((0 : Int), ((0 : Int), ((cv .i64 .i32 (sub .i64 d (12 : Int))), ()))))), ()))
    (some ((op, (a, (b, ((0 : Int), ((cv .i64 .i32 (sub .i64 d (12 : Int))), ()))))), ())))
   (jn (R := ((Int) × ((Int) × ((Int) × ((Int) × ((BitVec 32) × (Unit)))))) × (Unit)) (Z := (Bool) × (Unit))
    (cond (eqI .i64 op (16 : Int))
     (some (Sum.inr (true, ())))
     (cond (eqI .i64 op (23 : Int))
      (some (Sum.inr (true, ())))
      (cond (leI .i64 (32 : Int) op)
       (cond (leI .i64 op (36 : Int))
        (some (Sum.inr (true, ())))
        (some (Sum.inr ((eqI .i64 op (49 : Int)), ()))))
       (some (Sum.inr ((eqI .i64 op (49 : Int)), ()))))))
    fun z9 =>
    cond z9.1
    (some ((op, (a, (b, ((0 : Int), ((cv .i64 .i32 (sub .i64 (mul .i64 (8 : Int) d) (32 : Int))), ()))))), ()))
    (cond (eqI .i64 op (24 : Int))
     (some ((op, (a, ((0 : Int), ((0 : Int), ((cv .i64 .i32 (mul .i64 d (andI .i64 (shr .i64 t (cnt .u64 (40#64))) (1 : Int)))), ()))))), ()))
     (jn (R := ((Int) × ((Int) × ((Int) × ((Int) × ((BitVec 32) × (Unit)))))) × (Unit)) (Z := (Bool) × (Unit))
      (cond (leI .i64 (17 : Int) op)
       (some (Sum.inr ((leI .i64 op (22 : Int)), ())))
       (some (Sum.inr (false, ()))))
      fun z10 =>
      cond z10.1
      (some ((op, (a, (b, ((0 : Int), ((cv .i64 .i32 d), ()))))), ()))
      (cond (eqI .i64 op (58 : Int))
       (if (!isZ .i64 (8 : Int)) = true then
        some ((op, (a, ((0 : Int), ((0 : Int), ((cv .i64 .i32 (rem .i64 d (8 : Int))), ()))))), ())
        else none)
       (cond (eqI .i64 op (59 : Int))
        (if (!isZ .i64 (8 : Int)) = true then
         some ((op, (a, ((0 : Int), ((0 : Int), ((cv .i64 .i32 (rem .i64 d (8 : Int))), ()))))), ())
         else none)
        (cond (eqI .i64 op (60 : Int))
         (if (!isZ .i64 (12 : Int)) = true then
          some ((op, (a, ((0 : Int), ((0 : Int), ((cv .i64 .i32 (rem .i64 d (12 : Int))), ()))))), ())
          else none)
         (cond (eqI .i64 op (61 : Int))
          (if (!isZ .i64 (12 : Int)) = true then
           some ((op, (a, ((0 : Int), ((0 : Int), ((cv .i64 .i32 (rem .i64 d (12 : Int))), ()))))), ())
           else none)
          (some ((op, ((0 : Int), ((0 : Int), ((0 : Int), ((0#32), ()))))), ()))))))))))
theorem g10_of {n t i a b c d : Int} (h26 : G26 (n, 1, ()) = some (t, ())) (h1 : G19 (t, 50, ()) = some (i, ())) (hi : inR .i64 i 50 = true)
    (ha : G19 (shr .i64 t (cnt .u64 8#64), 6, ()) = some (a, ())) (hb : G19 (shr .i64 t (cnt .u64 12#64), 6, ()) = some (b, ()))
    (hc : G19 (shr .i64 t (cnt .u64 16#64), 6, ()) = some (c, ())) (hd : G19 (shr .i64 t (cnt .u64 20#64), 24, ()) = some (d, ())) :
    G10 (n, ()) = body (List.getD ops (cnt .i64 i) 0) a b c d t := by
  have e25 : G25 () = some (ops, ()) := rfl
  have h1' : G19 (t, ((50 : Nat) : Int), ()) = some (i, ()) := h1
  have el' : List.length ops = 50 := rfl
  unfold G10
  simp only [e25, h26, Option.bind_some, el', h1', hi, ha, hb, hc, hd, if_true]
  rfl
theorem g26 (n : Int) : ∃ t, G26 (n, 1, ()) = some (t, ()) := ⟨_, rfl⟩
theorem g19 (a k : Int) (h0 : 0 < k) (h1 : k ≤ 1000) : ∃ r, G19 (a, k, ()) = some (r, ()) ∧ 0 ≤ r ∧ r < k := by
  have hz : isZ .i64 k = false := by show decide (k = 0) = false; rw [decide_eq_false_iff_not]; omega
  have hr : rem .i64 a k = a.tmod k := rfl
  have hlo : -k < a.tmod k := by have := Int.lt_tmod_of_pos a h0; omega
  have hhi : a.tmod k < k := Int.tmod_lt_of_pos a h0
  unfold G19
  simp only [hz, lt64, hr, Bool.not_false, if_true]
  by_cases h : a.tmod k < 0
  · refine ⟨add .i64 (a.tmod k) k, by rw [decide_eq_true h]; rfl, ?_⟩
    show 0 ≤ w64 (a.tmod k + k) ∧ w64 (a.tmod k + k) < k
    rw [w64_id (by omega) (by omega)]
    omega
  · exact ⟨a.tmod k, by rw [decide_eq_false h]; rfl, by omega, hhi⟩
def okM (f : Nat) (m : BitVec 32) : Bool := (sh f).2.2.2.1.sle m && m.sle (sh f).2.2.2.2.1
theorem vld_mk {f : Nat} {A B C : Int} {m : BitVec 32} (h0 : f ≠ 0) (hA : reg A (sh f).1 = true) (hB : reg B (sh f).2.1 = true) (hC : reg C (sh f).2.2.1 = true) (hm : okM f m = true) : vld f A B C m = true := by
  unfold okM at hm
  unfold vld
  rw [Bool.and_assoc, hm, hA, hB, hC, decide_eq_true h0]
  rfl
theorem reg6 {r : Int} (h : 0 ≤ r ∧ r < 6) : reg r true = true := by
  simp only [reg, cond_true, Bool.and_eq_true, decide_eq_true_eq]
  omega
theorem reg0 : reg 0 false = true := rfl
theorem of24 {p : Int → Bool} (h : (List.range 24).all (fun k => p (k : Int)) = true) {d : Int} (h0 : 0 ≤ d) (h1 : d < 24) : p d = true := by
  obtain ⟨k, rfl⟩ : ∃ k : Nat, d = k := ⟨d.toNat, by omega⟩
  exact List.all_eq_true.1 h k (by simp; omega)
theorem m12 {d : Int} (h : 0 ≤ d ∧ d < 24) : okM 3 (cv .i64 .i32 (sub .i64 d 12)) = true := of24 (p := fun d => okM 3 (cv .i64 .i32 (sub .i64 d 12))) (by kernel_rfl) h.1 h.2
theorem m12' {d : Int} (h : 0 ≤ d ∧ d < 24) : okM 7 (cv .i64 .i32 (sub .i64 d 12)) = true := of24 (p := fun d => okM 7 (cv .i64 .i32 (sub .i64 d 12))) (by kernel_rfl) h.1 h.2
theorem m8 {d : Int} (h : 0 ≤ d ∧ d < 24) : okM 3 (cv .i64 .i32 (sub .i64 (mul .i64 8 d) 32)) = true := of24 (p := fun d => okM 3 (cv .i64 .i32 (sub .i64 (mul .i64 8 d) 32))) (by kernel_rfl) h.1 h.2
theorem m4 {d : Int} (h : 0 ≤ d ∧ d < 24) : okM 4 (cv .i64 .i32 d) = true := of24 (p := fun d => okM 4 (cv .i64 .i32 d)) (by kernel_rfl) h.1 h.2
theorem m5 {d : Int} (h : 0 ≤ d ∧ d < 24) : okM 5 (cv .i64 .i32 d) = true := of24 (p := fun d => okM 5 (cv .i64 .i32 d)) (by kernel_rfl) h.1 h.2
theorem m58 {d : Int} (h : 0 ≤ d ∧ d < 24) : okM 8 (cv .i64 .i32 (rem .i64 d 8)) = true := of24 (p := fun d => okM 8 (cv .i64 .i32 (rem .i64 d 8))) (by kernel_rfl) h.1 h.2
theorem m60 {d : Int} (h : 0 ≤ d ∧ d < 24) : okM 9 (cv .i64 .i32 (rem .i64 d 12)) = true := of24 (p := fun d => okM 9 (cv .i64 .i32 (rem .i64 d 12))) (by kernel_rfl) h.1 h.2
theorem and1 (v : BitVec 64) : v &&& 1#64 = 0#64 ∨ v &&& 1#64 = 1#64 := by
  cases h : v[0]
  · left
    ext i hi
    by_cases h0 : i = 0
    · subst h0; simp [h]
    · simp [BitVec.getElem_one, h0]
  · right
    ext i hi
    by_cases h0 : i = 0
    · subst h0; simp [h]
    · simp [BitVec.getElem_one, h0]
theorem andI1 (y : Int) : andI .i64 y 1 = 0 ∨ andI .i64 y 1 = 1 := by
  have e : ∃ v : BitVec 64, andI .i64 y 1 = w64 ((v &&& 1#64).toNat : Int) := ⟨BitVec.ofInt 64 y, rfl⟩
  obtain ⟨v, hv⟩ := e
  rcases and1 v with h | h <;> rw [hv, h]
  · exact .inl rfl
  · exact .inr rfl
theorem mLui {d y : Int} (h : 0 ≤ d ∧ d < 24) : okM 6 (cv .i64 .i32 (mul .i64 d (andI .i64 y 1))) = true := by
  rcases andI1 y with e | e <;> rw [e]
  · exact of24 (p := fun d => okM 6 (cv .i64 .i32 (mul .i64 d 0))) (by kernel_rfl) h.1 h.2
  · exact of24 (p := fun d => okM 6 (cv .i64 .i32 (mul .i64 d 1))) (by kernel_rfl) h.1 h.2
/-- The made instruction: what an operation of the table makes is valid; the three-register operations are those to 13; the operations 24, 48 and from 56 on have no second register. -/
def Made (i : Int × Int × Int × Int × BitVec 32 × Unit) : Prop := ∃ f : Nat, f < 10 ∧ G33 (i.1, ()) = some ((f : Int), ()) ∧ G29 (i.1, ()) = some (sh f, decide (f ≠ 0), ()) ∧ vld f i.2.1 i.2.2.1 i.2.2.2.1 i.2.2.2.2.1 = true
theorem made_of {op a b c d t : Int} (hop : op ∈ ops) (ha : 0 ≤ a ∧ a < 6) (hb : 0 ≤ b ∧ b < 6) (hc : 0 ≤ c ∧ c < 6) (hd : 0 ≤ d ∧ d < 24) : ∃ i, body op a b c d t = some (i, ()) ∧ Made i := by
  have xs : op = 1 ∨ op = 2 ∨ op = 3 ∨ op = 4 ∨ op = 5 ∨ op = 6 ∨ op = 7 ∨ op = 8 ∨ op = 9 ∨ op = 10 ∨ op = 11 ∨ op = 12 ∨ op = 13 ∨ op = 16 ∨ op = 17 ∨ op = 18 ∨ op = 19 ∨ op = 20 ∨ op = 21 ∨ op = 22 ∨ op = 23 ∨ op = 24 ∨ op = 32 ∨ op = 33 ∨ op = 34 ∨ op = 35 ∨ op = 36 ∨ op = 40 ∨ op = 41 ∨ op = 42 ∨ op = 43 ∨ op = 44 ∨ op = 45 ∨ op = 48 ∨ op = 49 ∨ op = 56 ∨ op = 57 ∨ op = 58 ∨ op = 59 ∨ op = 60 ∨ op = 61 ∨ op = 62 ∨ op = 63 ∨ op = 64 := by
    simp only [ops, List.mem_cons, List.not_mem_nil, or_false] at hop
    omega
  rcases xs with rfl | rfl | rfl | rfl | rfl | rfl | rfl | rfl | rfl | rfl | rfl | rfl | rfl | rfl | rfl | rfl | rfl | rfl | rfl | rfl | rfl | rfl | rfl | rfl | rfl | rfl | rfl | rfl | rfl | rfl | rfl | rfl | rfl | rfl | rfl | rfl | rfl | rfl | rfl | rfl | rfl | rfl | rfl | rfl
  · exact ⟨_, rfl, 2, by omega, by kernel_rfl, by kernel_rfl, vld_mk (f := 2) (by omega) (reg6 ha) (reg6 hb) (reg6 hc) rfl⟩
  · exact ⟨_, rfl, 2, by omega, by kernel_rfl, by kernel_rfl, vld_mk (f := 2) (by omega) (reg6 ha) (reg6 hb) (reg6 hc) rfl⟩
  · exact ⟨_, rfl, 2, by omega, by kernel_rfl, by kernel_rfl, vld_mk (f := 2) (by omega) (reg6 ha) (reg6 hb) (reg6 hc) rfl⟩
  · exact ⟨_, rfl, 2, by omega, by kernel_rfl, by kernel_rfl, vld_mk (f := 2) (by omega) (reg6 ha) (reg6 hb) (reg6 hc) rfl⟩
  · exact ⟨_, rfl, 2, by omega, by kernel_rfl, by kernel_rfl, vld_mk (f := 2) (by omega) (reg6 ha) (reg6 hb) (reg6 hc) rfl⟩
  · exact ⟨_, rfl, 2, by omega, by kernel_rfl, by kernel_rfl, vld_mk (f := 2) (by omega) (reg6 ha) (reg6 hb) (reg6 hc) rfl⟩
  · exact ⟨_, rfl, 2, by omega, by kernel_rfl, by kernel_rfl, vld_mk (f := 2) (by omega) (reg6 ha) (reg6 hb) (reg6 hc) rfl⟩
  · exact ⟨_, rfl, 2, by omega, by kernel_rfl, by kernel_rfl, vld_mk (f := 2) (by omega) (reg6 ha) (reg6 hb) (reg6 hc) rfl⟩
  · exact ⟨_, rfl, 2, by omega, by kernel_rfl, by kernel_rfl, vld_mk (f := 2) (by omega) (reg6 ha) (reg6 hb) (reg6 hc) rfl⟩
  · exact ⟨_, rfl, 2, by omega, by kernel_rfl, by kernel_rfl, vld_mk (f := 2) (by omega) (reg6 ha) (reg6 hb) (reg6 hc) rfl⟩
  · exact ⟨_, rfl, 2, by omega, by kernel_rfl, by kernel_rfl, vld_mk (f := 2) (by omega) (reg6 ha) (reg6 hb) (reg6 hc) rfl⟩
  · exact ⟨_, rfl, 2, by omega, by kernel_rfl, by kernel_rfl, vld_mk (f := 2) (by omega) (reg6 ha) (reg6 hb) (reg6 hc) rfl⟩
  · exact ⟨_, rfl, 2, by omega, by kernel_rfl, by kernel_rfl, vld_mk (f := 2) (by omega) (reg6 ha) (reg6 hb) (reg6 hc) rfl⟩
  · exact ⟨_, rfl, 3, by omega, by kernel_rfl, by kernel_rfl, vld_mk (f := 3) (by omega) (reg6 ha) (reg6 hb) reg0 (m8 hd)⟩
  · exact ⟨_, rfl, 4, by omega, by kernel_rfl, by kernel_rfl, vld_mk (f := 4) (by omega) (reg6 ha) (reg6 hb) reg0 (m4 hd)⟩
  · exact ⟨_, rfl, 4, by omega, by kernel_rfl, by kernel_rfl, vld_mk (f := 4) (by omega) (reg6 ha) (reg6 hb) reg0 (m4 hd)⟩
  · exact ⟨_, rfl, 4, by omega, by kernel_rfl, by kernel_rfl, vld_mk (f := 4) (by omega) (reg6 ha) (reg6 hb) reg0 (m4 hd)⟩
  · exact ⟨_, rfl, 5, by omega, by kernel_rfl, by kernel_rfl, vld_mk (f := 5) (by omega) (reg6 ha) (reg6 hb) reg0 (m5 hd)⟩
  · exact ⟨_, rfl, 5, by omega, by kernel_rfl, by kernel_rfl, vld_mk (f := 5) (by omega) (reg6 ha) (reg6 hb) reg0 (m5 hd)⟩
  · exact ⟨_, rfl, 5, by omega, by kernel_rfl, by kernel_rfl, vld_mk (f := 5) (by omega) (reg6 ha) (reg6 hb) reg0 (m5 hd)⟩
  · exact ⟨_, rfl, 3, by omega, by kernel_rfl, by kernel_rfl, vld_mk (f := 3) (by omega) (reg6 ha) (reg6 hb) reg0 (m8 hd)⟩
  · exact ⟨_, rfl, 6, by omega, by kernel_rfl, by kernel_rfl, vld_mk (f := 6) (by omega) (reg6 ha) reg0 reg0 (mLui hd)⟩
  · exact ⟨_, rfl, 3, by omega, by kernel_rfl, by kernel_rfl, vld_mk (f := 3) (by omega) (reg6 ha) (reg6 hb) reg0 (m8 hd)⟩
  · exact ⟨_, rfl, 3, by omega, by kernel_rfl, by kernel_rfl, vld_mk (f := 3) (by omega) (reg6 ha) (reg6 hb) reg0 (m8 hd)⟩
  · exact ⟨_, rfl, 3, by omega, by kernel_rfl, by kernel_rfl, vld_mk (f := 3) (by omega) (reg6 ha) (reg6 hb) reg0 (m8 hd)⟩
  · exact ⟨_, rfl, 3, by omega, by kernel_rfl, by kernel_rfl, vld_mk (f := 3) (by omega) (reg6 ha) (reg6 hb) reg0 (m8 hd)⟩
  · exact ⟨_, rfl, 3, by omega, by kernel_rfl, by kernel_rfl, vld_mk (f := 3) (by omega) (reg6 ha) (reg6 hb) reg0 (m8 hd)⟩
  · exact ⟨_, rfl, 3, by omega, by kernel_rfl, by kernel_rfl, vld_mk (f := 3) (by omega) (reg6 ha) (reg6 hb) reg0 (m12 hd)⟩
  · exact ⟨_, rfl, 3, by omega, by kernel_rfl, by kernel_rfl, vld_mk (f := 3) (by omega) (reg6 ha) (reg6 hb) reg0 (m12 hd)⟩
  · exact ⟨_, rfl, 3, by omega, by kernel_rfl, by kernel_rfl, vld_mk (f := 3) (by omega) (reg6 ha) (reg6 hb) reg0 (m12 hd)⟩
  · exact ⟨_, rfl, 3, by omega, by kernel_rfl, by kernel_rfl, vld_mk (f := 3) (by omega) (reg6 ha) (reg6 hb) reg0 (m12 hd)⟩
  · exact ⟨_, rfl, 3, by omega, by kernel_rfl, by kernel_rfl, vld_mk (f := 3) (by omega) (reg6 ha) (reg6 hb) reg0 (m12 hd)⟩
  · exact ⟨_, rfl, 3, by omega, by kernel_rfl, by kernel_rfl, vld_mk (f := 3) (by omega) (reg6 ha) (reg6 hb) reg0 (m12 hd)⟩
  · exact ⟨_, rfl, 7, by omega, by kernel_rfl, by kernel_rfl, vld_mk (f := 7) (by omega) (reg6 ha) reg0 reg0 (m12' hd)⟩
  · exact ⟨_, rfl, 3, by omega, by kernel_rfl, by kernel_rfl, vld_mk (f := 3) (by omega) (reg6 ha) (reg6 hb) reg0 (m8 hd)⟩
  · exact ⟨_, rfl, 1, by omega, by kernel_rfl, by kernel_rfl, vld_mk (f := 1) (by omega) reg0 reg0 reg0 rfl⟩
  · exact ⟨_, rfl, 1, by omega, by kernel_rfl, by kernel_rfl, vld_mk (f := 1) (by omega) reg0 reg0 reg0 rfl⟩
  · exact ⟨_, rfl, 8, by omega, by kernel_rfl, by kernel_rfl, vld_mk (f := 8) (by omega) (reg6 ha) reg0 reg0 (m58 hd)⟩
  · exact ⟨_, rfl, 8, by omega, by kernel_rfl, by kernel_rfl, vld_mk (f := 8) (by omega) (reg6 ha) reg0 reg0 (m58 hd)⟩
  · exact ⟨_, rfl, 9, by omega, by kernel_rfl, by kernel_rfl, vld_mk (f := 9) (by omega) (reg6 ha) reg0 reg0 (m60 hd)⟩
  · exact ⟨_, rfl, 9, by omega, by kernel_rfl, by kernel_rfl, vld_mk (f := 9) (by omega) (reg6 ha) reg0 reg0 (m60 hd)⟩
  · exact ⟨_, rfl, 1, by omega, by kernel_rfl, by kernel_rfl, vld_mk (f := 1) (by omega) reg0 reg0 reg0 rfl⟩
  · exact ⟨_, rfl, 1, by omega, by kernel_rfl, by kernel_rfl, vld_mk (f := 1) (by omega) reg0 reg0 reg0 rfl⟩
  · exact ⟨_, rfl, 1, by omega, by kernel_rfl, by kernel_rfl, vld_mk (f := 1) (by omega) reg0 reg0 reg0 rfl⟩
theorem made (n : Int) : ∃ i, G10 (n, ()) = some (i, ()) ∧ Made i := by
  obtain ⟨t, ht⟩ := g26 n
  obtain ⟨i, hi, i0, i1⟩ := g19 t 50 (by omega) (by omega)
  obtain ⟨a, ha, a0⟩ := g19 (shr .i64 t (cnt .u64 8#64)) 6 (by omega) (by omega)
  obtain ⟨b, hb, b0⟩ := g19 (shr .i64 t (cnt .u64 12#64)) 6 (by omega) (by omega)
  obtain ⟨c, hc, c0⟩ := g19 (shr .i64 t (cnt .u64 16#64)) 6 (by omega) (by omega)
  obtain ⟨d, hd, d0⟩ := g19 (shr .i64 t (cnt .u64 20#64)) 24 (by omega) (by omega)
  have hR : inR .i64 i 50 = true := by
    show (decide (0 ≤ i) && decide (i < ((50 : Nat) : Int))) = true
    rw [Bool.and_eq_true, decide_eq_true_eq, decide_eq_true_eq]
    exact ⟨i0, i1⟩
  rw [g10_of ht hi hR ha hb hc hd]
  refine made_of ?_ a0 b0 c0 d0
  have hl : cnt .i64 i < ops.length := by show i.toNat < 50; omega
  rw [List.getD_eq_getElem?_getD, List.getElem?_eq_getElem hl]
  exact List.getElem_mem hl
end Go.Proofs.YtamgehoiedfmeaaDoor
