/- Part of a law's proof: P. -/
import Derived.Test.YtageoaecepnfnaaGreatDoorT
import Derived.Test.YtageoaecepnfnaaGreatDoorSyI
namespace Go.Proofs.YtageoaecepnfnaaGreatDoor
open Go Go.Sy
set_option maxRecDepth 100000
/-! ### What hands back something -/
def Tot {α : Type} (o : Option α) : Prop := ∃ r, o = some r
theorem Tot.mk {α : Type} (r : α) : Tot (some r) := ⟨r, rfl⟩
theorem tcond {α : Type} {c : Bool} {a b : Option α} (h1 : Tot a) (h2 : Tot b) : Tot (cond c a b) := by cases c <;> assumption
theorem tbind {α β : Type} {o : Option α} {f : α → Option β} (h : Tot o) (k : ∀ r, o = some r → Tot (f r)) : Tot (o.bind f) := by
  obtain ⟨r, hr⟩ := h
  rw [hr]
  exact k r hr
theorem tjn {R Z : Type} {a : Option (R ⊕ Z)} {f : Z → Option R} (h : Tot a) (k : ∀ z, Tot (f z)) : Tot (jn a f) := by
  obtain ⟨r, rfl⟩ := h
  cases r with
  | inl r => exact ⟨r, rfl⟩
  | inr z => exact k z
theorem tite {α : Type} {c : Bool} {a b : Option α} (hc : c = true) (h : Tot a) : Tot (if c = true then a else b) := by
  rw [if_pos hc]
  exact h
/-- A loop that keeps what it keeps and comes nearer to its end. -/
theorem loop_ok {X R : Type} {f : X → Option (R ⊕ X)} (I : X → Prop) (Q : R → Prop) (μ : X → Nat) (h : ∀ x, I x → ∃ y, f x = some y ∧ (∀ r, y = .inl r → Q r) ∧ ∀ z, y = .inr z → I z ∧ μ z < μ x) :
    ∀ x, I x → ∃ r, loopT f x = some r ∧ Q r := by
  intro x
  induction hn : μ x using Nat.strongRecOn generalizing x with
  | _ n ih =>
    intro hx
    obtain ⟨y, hy, h1, h2⟩ := h x hx
    rw [loopT_step, hy]
    cases y with
    | inl r => exact ⟨r, rfl, h1 r rfl⟩
    | inr z =>
      obtain ⟨h3, h4⟩ := h2 z rfl
      exact ih (μ z) (by omega) z rfl h3
theorem eq64 (a b : Int) : eqI .i64 a b = decide (a = b) := rfl
theorem lt64 (a b : Int) : ltI .i64 a b = decide (a < b) := rfl
theorem le64 (a b : Int) : leI .i64 a b = decide (a ≤ b) := rfl
theorem rm {n : Nat} (h : n ≤ 140737488355328) : room n = true := by
  unfold room
  rw [decide_eq_true_eq]
  exact h
theorem inR64 {y : Int} {n : Nat} (h0 : 0 ≤ y) (h1 : y < n) : inR .i64 y n = true := by
  show (decide (0 ≤ y) && decide (y < n)) = true
  rw [Bool.and_eq_true, decide_eq_true_eq, decide_eq_true_eq]
  exact ⟨h0, h1⟩
/-- Round. -/
theorem g16 (a k : Int) (h0 : 0 < k) (h1 : k ≤ 100000) : ∃ r, G16 (a, k, ()) = some (r, ()) ∧ 0 ≤ r ∧ r < k := by
  have hz : isZ .i64 k = false := by show decide (k = 0) = false; rw [decide_eq_false_iff_not]; omega
  have hr : rem .i64 a k = a.tmod k := rfl
  have hlo : -k < a.tmod k := by have := Int.lt_tmod_of_pos a h0; omega
  have hhi : a.tmod k < k := Int.tmod_lt_of_pos a h0
  unfold G16
  simp only [hz, lt64, hr, Bool.not_false, if_true]
  by_cases h : a.tmod k < 0
  · refine ⟨add .i64 (a.tmod k) k, by rw [decide_eq_true h]; rfl, ?_⟩
    show 0 ≤ w64 (a.tmod k + k) ∧ w64 (a.tmod k + k) < k
    rw [w64_id (by omega) (by omega)]
    omega
  · exact ⟨a.tmod k, by rw [decide_eq_false h]; rfl, by omega, hhi⟩
theorem g73 (n k : Int) : ∃ t, G73 (n, k, ()) = some (t, ()) := ⟨_, rfl⟩
/-- Inst hands back an instruction. -/
theorem g61 (n : Int) : Tot (G61 (n, ())) := by
  unfold G61
  refine tbind ⟨_, rfl⟩ fun r1 h1 => ?_
  obtain ⟨t, ht⟩ := g73 n 1
  refine tbind ⟨_, ht⟩ fun r2 h2 => ?_
  have el : List.length r1.1 = 50 := by
    cases h1
    rfl
  rw [el]
  obtain ⟨i, hi, i0, i1⟩ := g16 r2.1 50 (by omega) (by omega)
  refine tbind ⟨_, hi⟩ fun r3 h3 => ?_
  have e3 : r3.1 = i := by
    have : G16 (r2.1, ((50 : Nat) : Int), ()) = some (i, ()) := hi
    rw [this] at h3
    cases h3
    rfl
  refine tite (by rw [e3]; exact inR64 i0 i1) ?_
  obtain ⟨a, ha, -⟩ := g16 (shr .i64 r2.1 (cnt .u64 8#64)) 6 (by omega) (by omega)
  obtain ⟨b, hb, -⟩ := g16 (shr .i64 r2.1 (cnt .u64 12#64)) 6 (by omega) (by omega)
  obtain ⟨c, hc, -⟩ := g16 (shr .i64 r2.1 (cnt .u64 16#64)) 6 (by omega) (by omega)
  obtain ⟨d, hd, -⟩ := g16 (shr .i64 r2.1 (cnt .u64 20#64)) 24 (by omega) (by omega)
  rw [ha, hb, hc, hd]
  simp only [Option.bind_some]
  repeat' first
    | exact Tot.mk _
    | refine tcond ?_ ?_
    | refine tjn ?_ (fun _ => ?_)
    | refine tite rfl ?_
theorem g141 (x : Int × Unit) : Tot (G141 x) := by
  unfold G141
  repeat' first
    | exact Tot.mk _
    | refine tcond ?_ ?_
    | refine tjn ?_ (fun _ => ?_)
theorem g142 (x : Int × Unit) : Tot (G142 x) := by
  unfold G142
  repeat' first
    | exact Tot.mk _
    | refine tcond ?_ ?_
    | refine tjn ?_ (fun _ => ?_)
theorem g143 (x : Int × Unit) : Tot (G143 x) := by
  unfold G143
  repeat' first
    | exact Tot.mk _
    | refine tcond ?_ ?_
    | refine tjn ?_ (fun _ => ?_)
theorem g75 (x) : Tot (G75 x) := by
  unfold G75
  repeat' first
    | exact Tot.mk _
    | refine tcond ?_ ?_
    | refine tjn ?_ (fun _ => ?_)
    | refine tbind (g141 _) (fun _ _ => ?_)
    | refine tbind (g142 _) (fun _ _ => ?_)
    | refine tbind (g143 _) (fun _ _ => ?_)
theorem g27 (x) : Tot (G27 x) := by
  unfold G27
  repeat' first
    | exact Tot.mk _
    | refine tcond ?_ ?_
    | refine tbind (g75 _) (fun _ _ => ?_)
/-- Code hands back as many words as it is given numbers. -/
theorem g15 (l : List Int) (hl : l.length * 8 ≤ 140737488355328) : ∃ r, G15 (l, ()) = some (r, ()) ∧ r.length = l.length := by
  unfold G15
  have fin : ∀ {o : Option (List (BitVec 32) × Unit)}, (∃ r, o = some r ∧ r.1.length = l.length) → ∃ r, o = some (r, ()) ∧ r.length = l.length := by
    rintro o ⟨⟨r, ⟨⟩⟩, h1, h2⟩
    exact ⟨r, h1, h2⟩
  refine fin (loop_ok (fun z : List (BitVec 32) × Int × Unit => (0 ≤ z.2.1 ∧ z.2.1 ≤ l.length) ∧ (z.1.length : Int) = z.2.1) (fun r : List (BitVec 32) × Unit => r.1.length = l.length) (fun z => ((l.length : Int) - z.2.1).toNat) ?_ _ ⟨⟨Int.le_refl _, Int.natCast_nonneg _⟩, rfl⟩)
  · rintro ⟨a, i, ⟨⟩⟩ ⟨⟨i0, i1⟩, hlen⟩
    replace i0 : 0 ≤ i := i0
    replace i1 : i ≤ (l.length : Int) := i1
    replace hlen : (a.length : Int) = i := hlen
    simp only [lt64]
    by_cases hi : i < (l.length : Int)
    · rw [decide_eq_true hi, cond_true, if_pos (inR64 i0 hi), if_pos (by rfl)]
      have hadd : add .i64 i 1 = i + 1 := w64_id (by omega) (by omega)
      have hroom : ∀ q : List (BitVec 32), q.length = 1 → (room ((List.length a + List.length q) * 4) && room (List.length a + List.length q) && true) = true := fun q hq => by
        rw [rm (by omega), rm (by omega)]
        rfl
      have next : ∀ q : List (BitVec 32), q.length = 1 → ∃ y : (List (BitVec 32) × Unit) ⊕ (List (BitVec 32) × Int × Unit), (some (Sum.inr ((a ++ q), (add .i64 i 1), ())) : Option ((List (BitVec 32) × Unit) ⊕ (List (BitVec 32) × Int × Unit))) = some y ∧ (∀ r, y = .inl r → r.1.length = l.length) ∧ ∀ z, y = .inr z → ((0 ≤ z.2.1 ∧ z.2.1 ≤ (l.length : Int)) ∧ (z.1.length : Int) = z.2.1) ∧ ((l.length : Int) - z.2.1).toNat < ((l.length : Int) - i).toNat := fun q hq => by
        refine ⟨_, rfl, fun r h => (by cases h), fun z h => ?_⟩
        cases h
        rw [hadd]
        show ((0 ≤ i + 1 ∧ i + 1 ≤ (l.length : Int)) ∧ (((a ++ q).length : Nat) : Int) = i + 1) ∧ ((l.length : Int) - (i + 1)).toNat < ((l.length : Int) - i).toNat
        refine ⟨⟨⟨by omega, by omega⟩, ?_⟩, by omega⟩
        rw [List.length_append, hq]
        omega
      cases eqI .i64 (rem .i64 (List.getD l (cnt .i64 i) 0) 17) 0
      · rw [cond_false, if_pos (inR64 i0 hi)]
        obtain ⟨r2, h2⟩ := g61 (List.getD l (cnt .i64 i) 0)
        obtain ⟨r3, h3⟩ := g27 (r2.1, ())
        rw [h2]
        simp only [Option.bind_some]
        rw [h3]
        simp only [Option.bind_some]
        rw [if_pos (hroom [r3.1] rfl)]
        exact next [r3.1] rfl
      · rw [cond_true, if_pos (inR64 i0 hi), if_pos (hroom _ rfl)]
        exact next _ rfl
    · rw [decide_eq_false hi, cond_false]
      refine ⟨_, rfl, fun r h => ?_, fun z h => (by cases h)⟩
      cases h
      show a.length = l.length
      omega
/-- A new machine, with pages, blocks and an image. -/
noncomputable def mNew (mem : List (BitVec 32)) (b : BitVec 32) :=
  ((((dflt (.arr 16 (.int .u32)) : List (BitVec 32)), ((0#32), ((List.set (dflt (.arr 8 (.int .u32))) 0 (1#32) : List (BitVec 32)), ()))), (mem, ((([] : List (BitVec 8)), ()), ((false, ((0#32), (false, ()))), ((b, ((0#32), ((0#32), ((0 : Int), ((0 : Int), ((0#32), ((0#32), (([] : List (BitVec 8)), ())))))))), (((0#32), ((0#32), (false, ((0#32), (false, ((0#32), ())))))), (((0#32), ((0#32), ())), ((0#64), (false, (false, ())))))))))))
theorem h18 : G18 ((1 : Int), (0 : Int), ([] : List (BitVec 32)), ()) = some (mNew (List.replicate 32 0#32) 0#32, (0 : Int), ()) := by kernel_rfl
theorem h28 (mem b) : G28 (mNew mem b, ()) = some (0#32, ()) := by
  have e1 : G76 ((mNew mem b).2.2.2.1, ()) = some (false, ()) := by kernel_rfl
  have e2 : G77 ((mNew mem b).2.2.1, ()) = some (false, ()) := by kernel_rfl
  have e3 : G78 ((mNew mem b).2.2.2.2.1, ()) = some (false, ()) := by kernel_rfl
  have e4 : G79 ((mNew mem b).2.2.2.2.2.1, ()) = some (false, ()) := by kernel_rfl
  have e5 : G80 ((mNew mem b).2.2.2.2.2.2.1, ()) = some (false, ()) := by kernel_rfl
  unfold G28
  simp only [e1, e2, e3, e4, e5, Option.bind_some]
  exact loopT_iff.2 ⟨6, by kernel_rfl⟩
theorem h70 (mem b) : G70 (mNew mem b, ()) = some (0#32, ()) := by
  unfold G70
  simp only [h28, Option.bind_some]
  kernel_rfl
theorem h83 (mem b) : G83 (mNew mem b, ()) = some ((mNew mem b).1, ()) := by
  unfold G83
  simp only [h70, Option.bind_some]
  kernel_rfl
theorem h22 (mem b) : G22 (mNew mem b, ()) = some (false, ()) := by kernel_rfl
theorem h81 : G81 (mNew (List.replicate 32 0#32) 0#32, ()) = some (true, ()) := by kernel_rfl
theorem awake : G17 () = some (true, ()) := by
  unfold G17
  simp only [h18, Option.bind_some]
  unfold G29
  simp only [h81, h83, Option.bind_some]
  kernel_rfl
/-! ### New -/
theorem sameWords (l : List (BitVec 32)) (hl : l.length ≤ 1000000) : G57 (l, l, ()) = some (true, ()) := by
  unfold G57
  have e : eqI .i64 ((List.length l : Nat) : Int) ((List.length l : Nat) : Int) = true := by rw [eq64, decide_eq_true_eq]
  simp only [e, Bool.not_true, cond_false]
  have fin : ∀ {o : Option (Bool × Unit)}, (∃ r, o = some r ∧ r.1 = true) → o = some (true, ()) := by
    rintro o ⟨⟨r, ⟨⟩⟩, h1, h2⟩
    have h2 : r = true := h2
    rw [h1, h2]
  refine fin (loop_ok (fun z : Int × Unit => 0 ≤ z.1 ∧ z.1 ≤ l.length) (fun r : Bool × Unit => r.1 = true) (fun z => ((l.length : Int) - z.1).toNat) ?_ _ ⟨Int.le_refl _, Int.natCast_nonneg _⟩)
  rintro ⟨i, ⟨⟩⟩ ⟨i0, i1⟩
  replace i0 : 0 ≤ i := i0
  replace i1 : i ≤ (l.length : Int) := i1
  simp only [lt64]
  by_cases hi : i < (l.length : Int)
  · have hadd : add .i64 i 1 = i + 1 := w64_id (by omega) (by omega)
    have eq : ∀ w : BitVec 32, eqI .u32 w w = true := fun w => by show decide _ = true; rw [decide_eq_true_eq]
    rw [decide_eq_true hi, cond_true, if_pos (inR64 i0 hi), if_pos (inR64 i0 hi), eq, Bool.not_true, cond_false, hadd]
    refine ⟨_, rfl, fun r h => (by cases h), fun z h => ?_⟩
    cases h
    show (0 ≤ i + 1 ∧ i + 1 ≤ (l.length : Int)) ∧ ((l.length : Int) - (i + 1)).toNat < ((l.length : Int) - i).toNat
    omega
  · rw [decide_eq_false hi, cond_false]
    refine ⟨_, rfl, fun r h => ?_, fun z h => (by cases h)⟩
    cases h
    rfl
theorem sameNew (mem : List (BitVec 32)) (b : BitVec 32) (hl : mem.length ≤ 1000000) : G20 (mNew mem b, mNew mem b, ()) = some (true, ()) := by
  have h := sameWords mem hl
  have e1 : eqD (.cons (.arr 16 (.int .u32)) (.cons (.int .u32) (.cons (.arr 8 (.int .u32)) .nil))) (mNew mem b).1 (mNew mem b).1 = true := by kernel_rfl
  have e2 : eqI .u32 b b = true := by show decide _ = true; rw [decide_eq_true_eq]
  have e3 : eqD (.cons (.int .u32) (.cons (.int .u32) (.cons (.int .u32) (.cons (.int .i64) (.cons (.int .i64) (.cons (.int .u32) (.cons (.int .u32) (.cons .str .nil)))))))) (mNew mem b).2.2.2.2.1 (mNew mem b).2.2.2.2.1 = true := by
    show (eqI .u32 b b && _) = true
    rw [e2]
    kernel_rfl
  have e4 : (mNew mem b).2.1 = mem := rfl
  unfold G20
  simp only [e1, e3, e4, h, Option.bind_some, cond_true]
  rfl
/-- What May says of a new machine: by the number of its pages and blocks. -/
noncomputable def chkMay (p b : Nat) : Bool :=
  match G67 ((mNew [] (BitVec.ofInt 32 (b : Int))).2.2.2.2.1, (p : Int), ()), G68 ((mNew [] 0#32).2.2.2.2.2.1, (p : Int), ()), G69 ((mNew [] 0#32).2.2.2.2.2.2.1, (p : Int), ()) with
  | some (x, _), some (y, _), some (z, _) => x && y && z
  | _, _, _ => false
theorem chkMay_all : ((List.range 33).all fun p => (List.range 65).all fun b => decide (p = 0) || chkMay p b) = true := by kernel_rfl
theorem mayNew (mem : List (BitVec 32)) (p b : Nat) (hp0 : 1 ≤ p) (hp : p ≤ 32) (hb : b ≤ 64) (hl : mem.length = p * 32) : G21 (mNew mem (BitVec.ofInt 32 (b : Int)), ()) = some (true, ()) := by
  have hc := List.all_eq_true.1 (List.all_eq_true.1 chkMay_all p (by simp; omega)) b (by simp; omega)
  rw [decide_eq_false (by omega), Bool.false_or] at hc
  have h51 : G51 ((mNew mem (BitVec.ofInt 32 (b : Int))).2.1, ()) = some ((p : Int), ()) := by
    show G51 (mem, ()) = _
    have hr : rem .i64 ((mem.length : Nat) : Int) 32 = 0 := by
      show ((mem.length : Nat) : Int).tmod 32 = 0
      rw [Int.tmod_eq_emod_of_nonneg (by omega), hl]
      omega
    have hq : quo .i64 ((mem.length : Nat) : Int) 32 = (p : Int) := by
      show w64 (((mem.length : Nat) : Int).tdiv 32) = _
      rw [Int.tdiv_eq_ediv_of_nonneg (by omega), w64_id (by omega) (by omega)]
      omega
    unfold G51
    simp only [hr, hq, eq64, lt64]
    rw [decide_eq_false (by omega : ¬ (1024 : Int) < ((mem.length : Nat) : Int))]
    rfl
  unfold chkMay at hc
  split at hc
  · rename_i x _ y _ z _ e1 e2 e3
    simp only [Bool.and_eq_true] at hc
    obtain ⟨⟨rfl, rfl⟩, rfl⟩ := hc
    have e1 : G67 ((mNew mem (BitVec.ofInt 32 (b : Int))).2.2.2.2.1, (p : Int), ()) = some (true, ()) := e1
    have e2 : G68 ((mNew mem (BitVec.ofInt 32 (b : Int))).2.2.2.2.2.1, (p : Int), ()) = some (true, ()) := e2
    have e3 : G69 ((mNew mem (BitVec.ofInt 32 (b : Int))).2.2.2.2.2.2.1, (p : Int), ()) = some (true, ()) := e3
    have e4 : ltI .i64 (0 : Int) (p : Int) = true := by rw [lt64, decide_eq_true_eq]; omega
    unfold G21
    simp only [h51, e1, e2, e3, e4, Option.bind_some, cond_true]
    rfl
  · cases hc
theorem flat {k : Int} : eqI .i64 k k = true := by rw [eq64, decide_eq_true_eq]
/-- Both ways of making a machine. -/
theorem news (p b : Int) (im : List (BitVec 32)) :
    (G18 (p, b, im, ()) = some (mNew [] 0#32 |> fun m => ((dflt (.arr 16 (.int .u32)), 0#32, dflt (.arr 8 (.int .u32)), ()), m.2), (1200 : Int), ()) ∧
      G19 (p, b, im, ()) = some (mNew [] 0#32 |> fun m => ((dflt (.arr 16 (.int .u32)), 0#32, dflt (.arr 8 (.int .u32)), ()), m.2), false, ())) ∨
    ∃ P B : Nat, ∃ mem : List (BitVec 32), 1 ≤ P ∧ P ≤ 32 ∧ B ≤ 64 ∧ mem.length = P * 32 ∧ G18 (p, b, im, ()) = some (mNew mem (BitVec.ofInt 32 (B : Int)), (0 : Int), ()) ∧ G19 (p, b, im, ()) = some (mNew mem (BitVec.ofInt 32 (B : Int)), true, ()) := by
  by_cases h1 : p < 1
  · left
    unfold G18 G19
    simp only [lt64, decide_eq_true h1, cond_true]
    exact ⟨rfl, rfl⟩
  by_cases h2 : 32 < p
  · left
    unfold G18 G19
    simp only [lt64, decide_eq_false h1, decide_eq_true h2, cond_true, cond_false]
    exact ⟨rfl, rfl⟩
  by_cases h3 : b < 0
  · left
    unfold G18 G19
    simp only [lt64, decide_eq_false h1, decide_eq_false h2, decide_eq_true h3, cond_true, cond_false]
    exact ⟨rfl, rfl⟩
  by_cases h4 : 64 < b
  · left
    unfold G18 G19
    simp only [lt64, decide_eq_false h1, decide_eq_false h2, decide_eq_false h3, decide_eq_true h4, cond_true, cond_false]
    exact ⟨rfl, rfl⟩
  have hm : mul .i64 p 32 = p * 32 := w64_id (by omega) (by omega)
  by_cases h5 : p * 32 < (im.length : Int)
  · left
    unfold G18 G19
    simp only [lt64, hm, decide_eq_false h1, decide_eq_false h2, decide_eq_false h3, decide_eq_false h4, decide_eq_true h5, cond_true, cond_false]
    exact ⟨rfl, rfl⟩
  right
  obtain ⟨P, rfl⟩ : ∃ P : Nat, p = P := ⟨p.toNat, by omega⟩
  obtain ⟨B, rfl⟩ : ∃ B : Nat, b = B := ⟨b.toNat, by omega⟩
  have hg : (decide (0 ≤ toI .i64 ((P : Int) * 32)) && decide (toI .i64 ((P : Int) * 32) ≤ toI .i64 ((P : Int) * 32)) && room ((toI .i64 ((P : Int) * 32)).toNat * 4) && decide (toI .i64 ((P : Int) * 32) ≤ 140737488355328) && true) = true := by
    have e : toI .i64 ((P : Int) * 32) = (P : Int) * 32 := rfl
    rw [e, decide_eq_true (by omega), decide_eq_true (Int.le_refl _), rm (by omega), decide_eq_true (by omega)]
    rfl
  have h62 : G62 ((0#32), ()) = some ((mNew [] 0#32).1, ()) := by kernel_rfl
  have h63 : G63 ((0#32), ()) = some ((mNew [] 0#32).1, ()) := by kernel_rfl
  have hlen : (List.replicate (cnt .i64 ((P : Int) * 32)) 0#32).length = P * 32 := by
    rw [List.length_replicate]
    show ((P : Int) * 32).toNat = _
    omega
  refine ⟨P, B, List.take (P * 32) im ++ List.drop im.length (List.replicate (cnt .i64 ((P : Int) * 32)) 0#32), by omega, by omega, by omega, ?_, ?_, ?_⟩
  · rw [List.length_append, List.length_take, List.length_drop, hlen]
    omega
  · unfold G18
    simp only [lt64, hm, decide_eq_false h1, decide_eq_false h2, decide_eq_false h3, decide_eq_false h4, decide_eq_false h5, cond_false, h62, Option.bind_some, hg, if_true, hlen]
    rfl
  · unfold G19
    simp only [lt64, hm, decide_eq_false h1, decide_eq_false h2, decide_eq_false h3, decide_eq_false h4, decide_eq_false h5, cond_false, h63, Option.bind_some, hg, if_true, hlen]
    rfl
theorem sameNone : G20 (((dflt (.arr 16 (.int .u32)), 0#32, dflt (.arr 8 (.int .u32)), ()), (mNew [] 0#32).2), ((dflt (.arr 16 (.int .u32)), 0#32, dflt (.arr 8 (.int .u32)), ()), (mNew [] 0#32).2), ()) = some (true, ()) := by
  have h := sameWords [] (by simp)
  have e1 : eqD (.cons (.arr 16 (.int .u32)) (.cons (.int .u32) (.cons (.arr 8 (.int .u32)) .nil))) (dflt (.arr 16 (.int .u32)), 0#32, dflt (.arr 8 (.int .u32)), ()) (dflt (.arr 16 (.int .u32)), 0#32, dflt (.arr 8 (.int .u32)), ()) = true := by kernel_rfl
  have e3 : eqD (.cons (.int .u32) (.cons (.int .u32) (.cons (.int .u32) (.cons (.int .i64) (.cons (.int .i64) (.cons (.int .u32) (.cons (.int .u32) (.cons .str .nil)))))))) (mNew [] 0#32).2.2.2.2.1 (mNew [] 0#32).2.2.2.2.1 = true := by kernel_rfl
  have e4 : (mNew [] 0#32).2.1 = [] := rfl
  unfold G20
  simp only [e1, e3, e4, h, Option.bind_some, cond_true]
  rfl
theorem newsLaw (z1 : Int × Int × List (BitVec 32) × Unit) :
  (cond (ltI .i64 (200 : Int) ((List.length z1.2.2.1 : Nat) : Int))
  ((G17 ()).bind fun r5 =>
   some (r5.1, ()))
  ((G18 (z1.1, z1.2.1, z1.2.2.1, ())).bind fun r6 =>
   (G19 (z1.1, z1.2.1, z1.2.2.1, ())).bind fun r7 =>
   jn (R := (Bool) × (Unit)) (Z := Unit)
   (cond (!((eqI .i64 r6.2.1 (0 : Int)) == r7.2.1))
    (some (Sum.inl (false, ())))
    (cond (!r7.2.1)
     (cond (!eqI .i64 r6.2.1 (1200 : Int))
      (some (Sum.inl (false, ())))
      ((G20 (r6.1, r7.1, ())).bind fun r9 =>
       cond (!r9.1)
       (some (Sum.inl (false, ())))
       (some (Sum.inr ()))))
     ((G20 (r6.1, r7.1, ())).bind fun r10 =>
      cond (!r10.1)
      (some (Sum.inl (false, ())))
      (some (Sum.inr ())))))
   fun _ =>
   cond (!r7.2.1)
   ((G17 ()).bind fun r11 =>
    some (r11.1, ()))
   ((G21 (r6.1, ())).bind fun r12 =>
    cond r12.1
    ((G22 (r6.1, ())).bind fun r13 =>
     cond (!r13.1)
     ((G17 ()).bind fun r14 =>
      some (r14.1, ()))
     (some (false, ())))
    (some (false, ()))))) = some (true, ()) := by
  obtain ⟨p, b, im, ⟨⟩⟩ := z1
  rw [awake]
  cases ltI .i64 (200 : Int) ((List.length im : Nat) : Int)
  · rw [cond_false]
    rcases news p b im with ⟨h1, h2⟩ | ⟨P, B, mem, h1, h2, h3, h4, h5, h6⟩
    · simp only [h1, h2, Option.bind_some, sameNone]
      rfl
    · have hs := sameNew mem (BitVec.ofInt 32 (B : Int)) (by omega)
      have hm := mayNew mem P B h1 h2 h3 h4
      simp only [h5, h6, Option.bind_some, hs, hm, h22]
      rfl
  · rfl
theorem machineNews (p b : Int) (im : List (BitVec 32)) (l : List Int) (made : Bool) (hl : l.length * 8 ≤ 140737488355328) : G3 (p, b, im, l, made, ()) = some (true, ()) := by
  unfold G3
  cases made
  · exact newsLaw (p, b, im, ())
  · obtain ⟨c, hc, -⟩ := g15 l hl
    obtain ⟨x, hx, -⟩ := g16 p 36 (by omega) (by omega)
    obtain ⟨y, hy, -⟩ := g16 b 70 (by omega) (by omega)
    simp only [cond_true, hc, hx, hy, Option.bind_some]
    exact newsLaw (x, y, c, ())
end Go.Proofs.YtageoaecepnfnaaGreatDoor
