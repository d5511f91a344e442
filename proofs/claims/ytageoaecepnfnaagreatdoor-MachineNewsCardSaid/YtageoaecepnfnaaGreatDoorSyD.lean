/- A symbolic evaluator of the model's code, shown sound once for every program (part 4 of 9): what it computes of a function is what the function does. -/
import Derived.Test.YtageoaecepnfnaaGreatDoorSyC
import Derived.Orders
namespace Go.Sy
open Go Go.RowKit Go.Lib

/-- A bound of a slice expression: whether it is one, and the number. -/
def bnd : Option AV → Nat → Option (Bool × Nat)
  | none, d => some (true, d)
  | some (.v (.int k) x), _ => some (decide (0 ≤ toI k x), cnt k x)
  | _, _ => none
def oSlice (E : Env) (h : Hp) (nid : Nat) (t : TypeId) (x : AV) (lo hi mx : Option AV) : Option (Bool × AV × Hp) :=
  match look E.ty t with
  | some (.str, _) => (match x, mx with
    | .v .str l, none => (match bnd lo 0, bnd hi l.length with
      | some (g1, a), some (g2, b) => some (g1 && g2 && decide (a ≤ b) && decide (b ≤ l.length), .v .str ((l.take b).drop a), h)
      | _, _ => none)
    | _, _ => none)
  | some (.sl u, _) => (match mx with
    | none => (match x with
      | .bv s l => if Ty.beq s u then (match bnd lo 0, bnd hi l.length with
        | some (g1, a), some (g2, b) => some (g1 && g2 && decide (a ≤ b) && decide (b ≤ l.length), .bv s ((l.take b).drop a), h)
        | _, _ => none) else none
      | x => (match take h (.sl u) x with
        | some (l, h1) => (match bnd lo 0, bnd hi l.length with
          | some (g1, a), some (g2, b) => some (g1 && g2 && decide (a ≤ b) && decide (b ≤ l.length), .v (.sl u) ((l.take b).drop a), h1)
          | _, _ => none)
        | none => none))
    | some m => (match look E.sl t, rdT h u x, bnd lo 0, bnd hi 1, bnd (some m) 0 with
      | some (e, _), some _, some (g1, a), some (g2, b), some (g3, m') => some (g1 && g2 && g3 && decide (a = 0) && decide (b = 0) && decide (m' = 0) && okNid h nid, .rsl nid, h.set nid (.row e u [] true))
      | _, _, _, _, _ => none))
  | _ => none

theorem bnd_ok {c : Cx} {lo : Option AV} {vlo : Option Value} {d a : Nat} {g : Bool} (hb : bnd lo d = some (g, a)) (hg : g = true) (hv : ∀ av, lo = some av → ∃ v, vlo = some v ∧ AVL c av [v]) (hn : lo = none → vlo = none) :
    (vlo = none ∧ a = d) ∨ ∃ k n, vlo = some (.int k n) ∧ 0 ≤ n ∧ a = n.toNat := by
  cases lo with
  | none => simp [bnd] at hb; exact .inl ⟨hn rfl, hb.2.symm⟩
  | some av =>
    obtain ⟨v, rfl, ha⟩ := hv av rfl
    cases av with
    | v t x =>
      cases t with
      | int k =>
        simp only [bnd, Option.some.injEq, Prod.mk.injEq] at hb
        obtain ⟨h1, rfl⟩ := hb
        rw [hg] at h1
        simp only [decide_eq_true_eq] at h1
        obtain ⟨v', hv', hx⟩ := ha
        cases hv'
        have hx := VRep_int hx
        subst hx
        exact .inr ⟨k, toI k x, rfl, h1, (toI_cnt k x).symm⟩
      | _ => simp [bnd] at hb
    | _ => simp [bnd] at hb
theorem run_sliceBound {P : Program} {k : IntKind} {n : Int} {y : Nat} {code : BoundsCode} (h0 : 0 ≤ n) (h : n.toNat ≤ y) (w : World) : (Instr.sliceBound (.int k n) y code).run P w = .ok n.toNat w := by
  have : 0 ≤ n ∧ n ≤ (y : Int) := ⟨h0, by omega⟩
  simp [Instr.sliceBound, asIntOf, this]
theorem run_bounds {P : Program} {b : Bool} {len cap lo hi : Nat} {vlo vhi : Option Value} (hlo : (vlo = none ∧ lo = 0) ∨ ∃ k n, vlo = some (.int k n) ∧ 0 ≤ n ∧ lo = n.toNat) (hhi : (vhi = none ∧ hi = len) ∨ ∃ k n, vhi = some (.int k n) ∧ 0 ≤ n ∧ hi = n.toNat)
    (h1 : lo ≤ hi) (h2 : hi ≤ len) (h3 : len ≤ cap) (w : World) : (Instr.sliceBounds b len cap vlo vhi none).run P w = .ok (lo, hi, cap) w := by
  rcases hlo with ⟨rfl, rfl⟩ | ⟨k, n, rfl, hn, rfl⟩ <;> rcases hhi with ⟨rfl, rfl⟩ | ⟨k', n', rfl, hn', rfl⟩
  · simp [Instr.sliceBounds]
  · simp [Instr.sliceBounds, run_sliceBound hn' (show n'.toNat ≤ cap by omega)]
  · simp [Instr.sliceBounds, run_sliceBound hn h1]
  · simp [Instr.sliceBounds, run_sliceBound hn' (show n'.toNat ≤ cap by omega), run_sliceBound hn h1]
theorem run_slice_sl {P : Program} {u : Ty} {t : TypeId} (hc : chk P (.sl u) (.inl t) = true) {len cap lo hi : Nat} {vlo vhi : Option Value} (a : Option Addr) (hlo : (vlo = none ∧ lo = 0) ∨ ∃ k n, vlo = some (.int k n) ∧ 0 ≤ n ∧ lo = n.toNat) (hhi : (vhi = none ∧ hi = len) ∨ ∃ k n, vhi = some (.int k n) ∧ 0 ≤ n ∧ hi = n.toNat)
    (h1 : lo ≤ hi) (h2 : hi ≤ len) (h3 : len ≤ cap) (w : World) : (Instr.sliceAt t (.slice a len cap) vlo vhi none).run P w = .ok (.slice (if cap = lo then a else a.map (·.add (lo * u.size))) (hi - lo) (cap - lo)) w := by
  obtain ⟨e, he1, he2⟩ := chk_sl hc
  simp [Instr.sliceAt, run_underlying he1, Instr.slice, run_bounds hlo hhi h1 h2 h3, run_sizeOf he2]
theorem sub_elems {c : Cx} {u : Ty} {l : List (Den u)} {b o lo hi : Nat} (h : ∀ i x, l[i]? = some x → ∃ ds, Cells c.w b (o + i * u.size) ds ∧ RepC c.w c.okb u x ds) :
    ∀ i x, ((l.take hi).drop lo)[i]? = some x → ∃ ds, Cells c.w b (o + lo * u.size + i * u.size) ds ∧ RepC c.w c.okb u x ds := by
  intro i x hx
  rw [List.getElem?_drop, List.getElem?_take] at hx
  split at hx
  · obtain ⟨ds, h1, h2⟩ := h _ x hx
    refine ⟨ds, ?_, h2⟩
    rw [Nat.add_mul] at h1
    rw [Nat.add_assoc]; exact h1
  · cases hx
theorem oSlice_ok {E : Env} {c : Cx} {h h' : Hp} {nid : Nat} {t : TypeId} {x av : AV} {lo hi mx : Option AV} {vlo vhi vmx : Option Value} {g : Bool} {v : Value} (hE : E.Ok c.P) (ho : c.Ok E) (hh : c.objs = h.objs)
    (hl : oSlice E h nid t x lo hi mx = some (g, av, h')) (hg : g = true) (hx : AVL c x [v])
    (hlo : ∀ av, lo = some av → ∃ v, vlo = some v ∧ AVL c av [v]) (hlo0 : lo = none → vlo = none) (hhi : ∀ av, hi = some av → ∃ v, vhi = some v ∧ AVL c av [v]) (hhi0 : hi = none → vhi = none)
    (hmx : ∀ av, mx = some av → ∃ v, vmx = some v ∧ AVL c av [v]) (hmx0 : mx = none → vmx = none) : Good E c h h' (do pure (.value (← Instr.sliceAt t v vlo vhi vmx))) av := by
  unfold oSlice at hl
  split at hl
  · rename_i nb hty
    have hc := (hE.ty t _ nb hty).1
    split at hl
    · rename_i l
      split at hl
      · rename_i g1 a g2 b hb1 hb2
        simp only [Option.some.injEq, Prod.mk.injEq] at hl
        obtain ⟨hgg, rfl, rfl⟩ := hl
        rw [hg] at hgg
        simp only [Bool.and_eq_true, decide_eq_true_eq] at hgg
        obtain ⟨⟨⟨q1, q2⟩, q3⟩, q4⟩ := hgg
        have r1 := bnd_ok hb1 q1 hlo hlo0
        have r2 := bnd_ok hb2 q2 hhi hhi0
        obtain ⟨v', hv, hy⟩ := hx
        cases hv
        have hy := VRep_str hy
        subst hy
        have r3 := hmx0 rfl
        subst r3
        have hsz := bstr_size l
        rw [← hsz] at r2 q4
        refine Good.of_val (v := .string ((bstr l).extract a b)) (w' := c.w) ?_ ⟨c, rfl, hh, ho, Cx.Evol.refl c, Hp.Agr.refl _, vstr c _ _ ?_⟩
        · simp [Instr.sliceAt, run_underlying (chk_str hc), Instr.slice, run_bounds r1 r2 q3 q4 (Nat.le_refl _)]
        · unfold bstr
          rw [ByteArray.extract_mk]
          congr 2
          rw [List.map_drop, List.map_take, List.drop_take]
      · cases hl
    · cases hl
  · rename_i u nb hty
    have hc := (hE.ty t _ nb hty).1
    split at hl
    · -- two indexes
      have r3 := hmx0 rfl
      subst r3
      split at hl
      · rename_i s l
        split at hl
        · rename_i hb
          have hb := Ty.beq_eq hb
          subst hb
          split at hl
          · rename_i g1 a g2 b hb1 hb2
            simp only [Option.some.injEq, Prod.mk.injEq] at hl
            obtain ⟨hgg, rfl, rfl⟩ := hl
            rw [hg] at hgg
            simp only [Bool.and_eq_true, decide_eq_true_eq] at hgg
            obtain ⟨⟨⟨q1, q2⟩, q3⟩, q4⟩ := hgg
            have r1 := bnd_ok hb1 q1 hlo hlo0
            have r2 := bnd_ok hb2 q2 hhi hhi0
            obtain ⟨a0, cap, hv, hcap, hel⟩ := hx
            cases hv
            refine Good.of_val (run_slice_sl hc a0 r1 r2 q3 q4 hcap c.w) ⟨c, rfl, hh, ho, Cx.Evol.refl c, Hp.Agr.refl _, ?_⟩
            have hlen : ((l.take b).drop a).length = b - a := by simp; omega
            refine ⟨_, _, by rw [hlen], by rw [hlen]; omega, ?_⟩
            by_cases hz : b - a = 0
            · exact .inl (List.eq_nil_of_length_eq_zero (by omega))
            · rcases hel with hel | ⟨bb, o, rfl, hk, hel⟩
              · subst hel; simp at q4; omega
              · refine .inr ⟨bb, o + a * s.size, ?_, hk, sub_elems hel⟩
                rw [if_neg (by omega)]; simp [addr_add]
          · cases hl
        · cases hl
      · split at hl
        · rename_i l h1 ht
          obtain ⟨a1, a2, a3, a4⟩ := take_ok ho hh ht hx
          split at hl
          · rename_i g1 a g2 b hb1 hb2
            simp only [Option.some.injEq, Prod.mk.injEq] at hl
            obtain ⟨hgg, rfl, rfl⟩ := hl
            rw [hg] at hgg
            simp only [Bool.and_eq_true, decide_eq_true_eq] at hgg
            obtain ⟨⟨⟨q1, q2⟩, q3⟩, q4⟩ := hgg
            have r1 := bnd_ok hb1 q1 hlo hlo0
            have r2 := bnd_ok hb2 q2 hhi hhi0
            obtain ⟨a0, cap, hv, hcap, hel⟩ := a4
            cases hv
            refine Good.of_val (run_slice_sl hc a0 r1 r2 q3 q4 hcap c.w) ⟨c.at h1, rfl, rfl, a1, a2, a3, AVL_v ?_⟩
            have hlen : ((l.take b).drop a).length = b - a := by simp; omega
            refine ⟨_, _, by rw [hlen], by rw [hlen]; omega, ?_⟩
            by_cases hz : b - a = 0
            · exact .inl (List.eq_nil_of_length_eq_zero (by omega))
            · rcases hel with hel | ⟨bb, o, rfl, hk, hel⟩
              · subst hel; simp at q4; omega
              · refine .inr ⟨bb, o + a * u.size, ?_, hk, sub_elems (c := c.at h1) hel⟩
                rw [if_neg (by omega)]; simp [addr_add]
          · cases hl
        · cases hl
    · rename_i m
      split at hl
      · rename_i e ne l0 g1 a g2 b g3 m' hsl hrd hb1 hb2 hb3
        simp only [Option.some.injEq, Prod.mk.injEq] at hl
        obtain ⟨hgg, rfl, rfl⟩ := hl
        rw [hg] at hgg
        simp only [Bool.and_eq_true, decide_eq_true_eq] at hgg
        obtain ⟨⟨⟨⟨⟨⟨q1, q2⟩, q3⟩, q4⟩, q5⟩, q6⟩, q7⟩ := hgg
        subst q4; subst q5; subst q6
        obtain ⟨q7, hfree⟩ := okNid_iff q7
        have r1 := bnd_ok hb1 q1 hlo hlo0
        have r3 := bnd_ok hb3 q3 hmx hmx0
        obtain ⟨a0, cap, hv, hcap, hel⟩ := rdT_ok ho hh hrd hx
        subst hv
        obtain ⟨e2, he1, he2⟩ := chk_sl hc
        -- the high bound is a number, and it is zero
        have r2 : ∃ k n, vhi = some (.int k n) ∧ 0 ≤ n ∧ 0 = n.toNat := by
          rcases bnd_ok hb2 q2 hhi hhi0 with ⟨_, r2⟩ | r2
          · cases r2
          · exact r2
        have r3' : ∃ k n, vmx = some (.int k n) ∧ 0 ≤ n ∧ 0 = n.toNat := by
          rcases r3 with ⟨r3, _⟩ | r3
          · obtain ⟨w, hw, _⟩ := hmx m rfl; rw [r3] at hw; cases hw
          · exact r3
        obtain ⟨k3, n3, rfl, hn3, h3⟩ := r3'
        obtain ⟨k2, n2, rfl, hn2, h2⟩ := r2
        have hbnd : (Instr.sliceBounds true l0.length cap vlo (some (.int k2 n2)) (some (.int k3 n3))).run c.P c.w = .ok (0, 0, 0) c.w := by
          have e3 := run_sliceBound (P := c.P) (k := k3) (code := .slice3Acap) hn3 (show n3.toNat ≤ cap by omega) c.w
          have e2 := run_sliceBound (P := c.P) (k := k2) (code := .slice3B) hn2 (show n2.toNat ≤ 0 by omega) c.w
          rw [← h3] at e3
          rw [← h2] at e2
          rcases r1 with ⟨rfl, _⟩ | ⟨k1, n1, rfl, hn1, h1⟩
          · simp [Instr.sliceBounds, e3, e2]
          · have e1 := run_sliceBound (P := c.P) (k := k1) (code := .slice3C) hn1 (show n1.toNat ≤ 0 by omega) c.w
            rw [← h1] at e1
            simp [Instr.sliceBounds, e3, e2, e1]
        obtain ⟨c', w1, w2, w3, w4, w5, w6⟩ := row_new ho hh q7 hfree e u [] (.slice a0 0 0) c.w rfl rfl rfl (Nat.le_refl _) (fun _ _ => rfl) (fun b hb => by
          cases a0 <;> simp [blkOf] at hb) rfl (fun c' hev hw => .inl ⟨a0, rfl, rfl⟩)
        refine Good.of_val (v := .slice a0 0 0) (w' := c.w) ?_ ⟨c', w1, w2, w3, w4, w5, w6⟩
        simp [Instr.sliceAt, run_underlying he1, Instr.slice, hbnd, run_sizeOf he2]
      · cases hl
  · cases hl
end Go.Sy
namespace Go.Sy
open Go Go.RowKit Go.Lib

/-- New memory that no object owns. -/
theorem Cx.grow {E : Env} {c : Cx} (h : c.Ok E) (w' : World) (hos : w'.os = c.w.os) (htape : w'.tape = c.w.tape) (hout : w'.output = c.w.output) (hsize : c.w.heap.size ≤ w'.heap.size)
    (hold : ∀ b, b < c.w.heap.size → w'.heap[b]? = c.w.heap[b]?) : ({ c with w := w' } : Cx).Ok E ∧ c.Evol { c with w := w' } := by
  have hf : c.objs.getD c.objs.length .free = .free := by rw [List.getD_eq_getElem?_getD, List.getElem?_eq_none (Nat.le_refl _)]; rfl
  refine Cx.step (c' := { c with w := w' }) h c.objs.length rfl rfl rfl hos htape hout hsize (fun _ _ => rfl) (fun _ _ => rfl) (Ob.leads_refl _) (fun _ => rfl) (fun b hx _ => by rw [hf] at hx; cases hx) (fun b hb _ => hold b hb) ?_ ?_ ?_
  · intro hm; exact absurd hm (by show ¬ (c.objs.getD c.objs.length .free).mut = true; rw [hf]; simp [Ob.mut])
  · intro _; show ORel _ _ (c.objs.getD c.objs.length .free); rw [hf]; trivial
  · intro e t l he; exact absurd he (by show ¬ (c.objs.getD c.objs.length .free) = _; rw [hf]; simp)
/-- A string as a slice of bytes, and a slice of bytes as a string. -/
def oConvB (E : Env) (h : Hp) (s d : TypeId) (x : AV) : Option (Bool × AV × Hp) :=
  match look E.ty s, look E.ty d with
  | some (.str, _), some (.sl (.int .u8), _) => (match x with | .v .str l => some (true, .v (.sl (.int .u8)) l, h) | _ => none)
  | some (.sl (.int .u8), _), some (.str, _) => (rdT h (.int .u8) x).map fun l => (true, .v .str l, h)
  | _, _ => none
theorem bytes_of_ints : ∀ (l : List (BitVec 8)) (s : ByteArray), (l.map fun x => (x.toNat : Int)).foldl (fun r n => r.push (UInt8.ofNat n.toNat)) s = ⟨s.data ++ (l.map UInt8.ofBitVec).toArray⟩ := by
  intro l
  induction l with
  | nil => intro s; simp
  | cons x l ih =>
    intro s
    simp only [List.map_cons, List.foldl_cons]
    rw [ih]
    have e : UInt8.ofNat ((x.toNat : Int).toNat) = UInt8.ofBitVec x := by
      apply UInt8.toBitVec_inj.1
      simp
    rw [e]
    congr 1
    apply Array.ext'
    simp [ByteArray.push]
theorem oConvB_ok {E : Env} {c : Cx} {h h' : Hp} {s d : TypeId} {x av : AV} {g : Bool} {v : Value} (hE : E.Ok c.P) (ho : c.Ok E) (hh : c.objs = h.objs)
    (hl : oConvB E h s d x = some (g, av, h')) (hx : AVL c x [v]) : Good E c h h' (do pure (.value (← convert s d v))) av := by
  unfold oConvB at hl
  split at hl
  · rename_i n1 n2 hs hd
    have hs := chk_str (hE.ty s _ _ hs).1
    obtain ⟨e, he1, he2⟩ := chk_sl (hE.ty d _ _ hd).1
    split at hl
    · rename_i l
      simp only [Option.some.injEq, Prod.mk.injEq] at hl
      obtain ⟨_, rfl, rfl⟩ := hl
      obtain ⟨v', hv, hy⟩ := hx
      cases hv
      have hy := VRep_str hy
      subst hy
      have hrun := Go.Lib.run_convert_string_bytes (P := c.P) c.w s d e (bstr l) hs he1 (chk_int he2)
      obtain ⟨g1, g2⟩ := Cx.grow ho (bytesWorld c.w e (bstr l)) rfl rfl rfl (by rw [bytesWorld_size]; omega) (fun b hb => bytesWorld_at_old _ _ _ b hb)
      refine Good.of_val hrun ⟨{ c with w := bytesWorld c.w e (bstr l) }, rfl, hh, g1, g2, Hp.Agr.refl _, AVL_v ?_⟩
      have hsz := bstr_size l
      rw [hsz]
      refine ⟨_, _, rfl, grownCap_ge _ _ _ _, ?_⟩
      by_cases hz : l = []
      · exact .inl hz
      · refine .inr ⟨c.w.heap.size, 0, rfl, ⟨.inr ho.base, ?_, fun o hm hb => ?_⟩, fun i y hy => ?_⟩
        · show c.w.heap.size < (bytesWorld c.w e (bstr l)).heap.size
          rw [bytesWorld_size]; omega
        · have := (ho.high o _ hm hb).2; omega
        · have hi := (List.getElem?_eq_some_iff.1 hy).1
          have hy2 := (List.getElem?_eq_some_iff.1 hy).2
          refine ⟨[.int .u8 (y.toNat : Int)], fun j u hj => ?_, rfl⟩
          have hj0 : j = 0 := by
            have := (List.getElem?_eq_some_iff.1 hj).1; simp at this; exact this
          subst hj0
          simp only [List.getElem?_cons_zero, Option.some.injEq] at hj
          subst hj
          have := bytesWorld_cell c.w e (bstr l) i (by rw [hsz]; exact hi)
          simp only [Ty.size, Nat.mul_one, Nat.zero_add, Nat.add_zero]
          rw [this]
          simp [bstr, List.getD, hi, hy2]
    · cases hl
  · rename_i n1 n2 hs hd
    obtain ⟨e, he1, he2⟩ := chk_sl (hE.ty s _ _ hs).1
    have hd := chk_str (hE.ty d _ _ hd).1
    simp only [Option.map_eq_some_iff] at hl
    obtain ⟨l, hrd, he⟩ := hl
    simp only [Prod.mk.injEq] at he
    obtain ⟨_, rfl, rfl⟩ := he
    obtain ⟨a, cap, hv, hcap, hel⟩ := rdT_ok ho hh hrd hx
    subst hv
    refine Good.of_val (v := .string (bstr l)) (w' := c.w) ?_ ⟨c, rfl, hh, ho, Cx.Evol.refl c, Hp.Agr.refl _, vstr c _ _ rfl⟩
    rw [run_convert_bytes_string c.w s d e a l.length cap he1 (chk_int he2) hd]
    rcases hel with hel | ⟨b, o, rfl, _, hel⟩
    · subst hel
      cases a with
      | none => rfl
      | some a => simp [Conv.bytesToString, loadCells, loadCellsFrom]; rfl
    · obtain ⟨news, k1, k2⟩ := slice_news hel
      have e1 : news = (l.map fun x => (x.toNat : Int)).map (Value.int .u8) := by
        have hnl : news.length = l.length := by have := k2.2.1; simpa [Ty.size] using this
        apply List.ext_getElem?
        intro i
        rcases Nat.lt_or_ge i l.length with hi | hi
        · have h3 := k2.2.2 i l[i] (List.getElem?_eq_getElem hi)
          simp only [Ty.size, Nat.mul_one, RepC, toI] at h3
          rw [List.drop_eq_getElem_cons (by omega)] at h3
          simp only [List.take_succ_cons, List.take_zero, List.cons.injEq, and_true] at h3
          rw [List.getElem?_eq_getElem (by omega), h3]
          simp [hi]
        · rw [List.getElem?_eq_none (by omega), List.getElem?_eq_none (by simp; omega)]
      have hload : (loadCells ⟨b, o, none⟩ l.length).run c.P c.w = .ok ((l.map fun x => (x.toNat : Int)).map (Value.int .u8)).toArray c.w := by
        have := run_loadCells_list (P := c.P) c.w ⟨b, o, none⟩ news (fun j u hj => by rw [addr_add]; exact k1 j u hj)
        rw [e1] at this
        simpa using this
      rw [run_bytesToString c.w ⟨b, o, none⟩ l.length cap _ hload, bytes_of_ints]
      simp [bstr]
  · cases hl
/-- The least, the greatest of two numbers. -/
def minI (k : IntKind) (x y : IDen k) : IDen k := cond (ltI k y x) y x
def maxI (k : IntKind) (x y : IDen k) : IDen k := cond (ltI k x y) y x
def oMin (h : Hp) (x y : AV) : Option (Bool × AV × Hp) :=
  match x, y with
  | .v (.int k) a, .v (.int j) b => if hk : kbeq j k = true then some (true, .v (.int k) (minI k a (castI hk b)), h) else none
  | _, _ => none
def oMax (h : Hp) (x y : AV) : Option (Bool × AV × Hp) :=
  match x, y with
  | .v (.int k) a, .v (.int j) b => if hk : kbeq j k = true then some (true, .v (.int k) (maxI k a (castI hk b)), h) else none
  | _, _ => none
theorem oMin_ok {E : Env} {c : Cx} {h h' : Hp} {ts : Array TypeId} {ty : TypeId} {x y av : AV} {g : Bool} {v w : Value} (ho : c.Ok E) (hh : c.objs = h.objs)
    (hl : oMin h x y = some (g, av, h')) (hx : AVL c x [v]) (hy : AVL c y [w]) : Good E c h h' (do pure (.value (← Builtin.min_ ts ty #[v, w]))) av := by
  unfold oMin at hl
  split at hl
  · rename_i k a j b
    split at hl
    · rename_i hk
      have hk' := kbeq_eq hk
      subst hk'
      simp only [Option.some.injEq, Prod.mk.injEq] at hl
      obtain ⟨_, rfl, rfl⟩ := hl
      obtain ⟨v', hv, hy1⟩ := hx
      cases hv
      obtain ⟨w', hw, hy2⟩ := hy
      cases hw
      have hy1 := VRep_int hy1
      have hy2 := VRep_int hy2
      subst hy1; subst hy2
      refine Good.of_val (w' := c.w) (run_min_int2 c.w ts ty j j (toI j a) (toI j b)) ⟨c, rfl, hh, ho, Cx.Evol.refl c, Hp.Agr.refl _, vint c j _ _ ?_⟩
      show _ = toI j (cond (ltI j b a) b a)
      have := ltI_iff j b a
      by_cases hc : toI j b < toI j a
      · rw [if_pos hc, this.2 hc]; rfl
      · rw [if_neg hc]
        cases hl : ltI j b a with
        | true => exact absurd (this.1 hl) hc
        | false => rfl
    · cases hl
  · cases hl
theorem oMax_ok {E : Env} {c : Cx} {h h' : Hp} {ts : Array TypeId} {ty : TypeId} {x y av : AV} {g : Bool} {v w : Value} (ho : c.Ok E) (hh : c.objs = h.objs)
    (hl : oMax h x y = some (g, av, h')) (hx : AVL c x [v]) (hy : AVL c y [w]) : Good E c h h' (do pure (.value (← Builtin.max_ ts ty #[v, w]))) av := by
  unfold oMax at hl
  split at hl
  · rename_i k a j b
    split at hl
    · rename_i hk
      have hk' := kbeq_eq hk
      subst hk'
      simp only [Option.some.injEq, Prod.mk.injEq] at hl
      obtain ⟨_, rfl, rfl⟩ := hl
      obtain ⟨v', hv, hy1⟩ := hx
      cases hv
      obtain ⟨w', hw, hy2⟩ := hy
      cases hw
      have hy1 := VRep_int hy1
      have hy2 := VRep_int hy2
      subst hy1; subst hy2
      refine Good.of_val (w' := c.w) (run_max_int2 c.w ts ty j j (toI j a) (toI j b)) ⟨c, rfl, hh, ho, Cx.Evol.refl c, Hp.Agr.refl _, vint c j _ _ ?_⟩
      show _ = toI j (cond (ltI j a b) b a)
      have := ltI_iff j a b
      by_cases hc : toI j b > toI j a
      · rw [if_pos hc, this.2 hc]; rfl
      · rw [if_neg hc]
        cases hl : ltI j a b with
        | true => exact absurd (this.1 hl) hc
        | false => rfl
    · cases hl
  · cases hl
end Go.Sy
namespace Go.Sy
open Go Go.RowKit Go.Lib

def eqL {α : Type} (f : α → α → Bool) : List α → List α → Bool
  | [], [] => true
  | a :: x, b :: y => f a b && eqL f x y
  | _, _ => false
/-- '==' of plain data. -/
def eqD : (τ : Ty) → Den τ → Den τ → Bool
  | .int k, x, y => eqI k x y
  | .bool, x, y => x == y
  | .str, x, y => decide (x = y)
  | .arr _ t, x, y => eqL (eqD t) x y
  | .cons a b, x, y => eqD a x.1 y.1 && eqD b x.2 y.2
  | .nil, _, _ => true
  | .opq, _, _ => false
  | .sl _, _, _ => false
theorem ldV1 {τ : Ty} (h : τ.isAgg = false) (v : Value) : ldV τ [v] = v := by unfold ldV; rw [if_neg (by simp [h])]; rfl
theorem eqL_ok {P : Program} {u : Ty} {e : TypeId} {d : Nat} {w w0 : World} {ok : Nat → Prop} (hc : chk P u (.inl e) = true)
    (ih : ∀ {x y : Den u} {cs ds : List Value}, RepC w0 ok u x cs → RepC w0 ok u y ds → (Op.equalIn d e (ldV u cs) (ldV u ds)).run P w = .ok (eqD u x y) w) :
    ∀ (l k : List (Den u)) (xs ys : List Value) (n j : Nat), l.length = n → k.length = n →
      (∀ i x, l[i]? = some x → RepC w0 ok u x ((xs.drop ((j + i) * u.size)).take u.size)) → (∀ i x, k[i]? = some x → RepC w0 ok u x ((ys.drop ((j + i) * u.size)).take u.size)) →
      (forIn (List.range' j n) ((none, ()) : Option Bool × PUnit) (fun i _ => do
          let a ← part e xs.toArray (i * u.size)
          let b ← part e ys.toArray (i * u.size)
          let r ← Op.equalIn d e a b
          if (!r) = true then pure (ForInStep.done (some false, ())) else pure (ForInStep.yield (none, ())))).run P w =
        .ok (if eqL (eqD u) l k then none else some false, ()) w := by
  intro l
  induction l with
  | nil =>
    intro k xs ys n j h1 h2 h3 h4
    have : n = 0 := by simpa using h1.symm
    subst this
    have : k = [] := List.eq_nil_of_length_eq_zero h2
    subst this
    simp [eqL]
  | cons x l ihl =>
    intro k xs ys n j h1 h2 h3 h4
    cases k with
    | nil => simp at h1 h2; omega
    | cons y k =>
      obtain ⟨n', rfl⟩ : ∃ n', n = n' + 1 := ⟨l.length, by simpa using h1.symm⟩
      have hx := h3 0 x rfl
      have hy := h4 0 y rfl
      simp only [Nat.add_zero] at hx hy
      have hlx : j * u.size + u.size ≤ xs.length := by
        have := hx.length; rw [List.length_take, List.length_drop] at this
        rcases Nat.eq_zero_or_pos u.size with h0 | h0
        · rw [h0]; omega
        · omega
      have hly : j * u.size + u.size ≤ ys.length := by
        have := hy.length; rw [List.length_take, List.length_drop] at this
        rcases Nat.eq_zero_or_pos u.size with h0 | h0
        · rw [h0]; omega
        · omega
      have hrec := ihl k xs ys n' (j + 1) (by simpa using h1) (by simpa using h2) (fun i z hz => by
        have := h3 (i + 1) z (by simpa using hz); rw [show j + 1 + i = j + (i + 1) by omega]; exact this) (fun i z hz => by
        have := h4 (i + 1) z (by simpa using hz); rw [show j + 1 + i = j + (i + 1) by omega]; exact this)
      simp only [List.range'_succ, List.forIn_cons, Sem.run_bind, run_part hc hlx, run_part hc hly, Result.andThen_ok, ih hx hy]
      cases hq : eqD u x y with
      | true =>
        simp only [Bool.not_true, Bool.false_eq_true, if_false, Sem.run_pure, Result.andThen_ok]
        rw [hrec]
        simp [eqL, hq]
      | false => simp [eqL, hq]
theorem nst_pos : ∀ τ : Ty, 1 ≤ nst τ := by intro τ; cases τ <;> simp [nst]
theorem eqD_ok {P : Program} {w w0 : World} {ok : Nat → Prop} : ∀ {τ : Ty},
    (∀ {t : TypeId} {x y : Den τ} {cs ds : List Value} {d : Nat}, chk P τ (.inl t) = true → eqChk P τ (.inl t) = true → nst τ ≤ d → RepC w0 ok τ x cs → RepC w0 ok τ y ds →
      (Op.equalIn d t (ldV τ cs) (ldV τ ds)).run P w = .ok (eqD τ x y) w) ∧
    (∀ {fs : Nat × List Field} {x y : Den τ} {pre1 pre2 cs ds : List Value} {d : Nat}, chk P τ (.inr fs) = true → eqChk P τ (.inr fs.2) = true → nst τ ≤ d → RepC w0 ok τ x cs → RepC w0 ok τ y ds → pre1.length = fs.1 → pre2.length = fs.1 →
      (Op.eqFields d (pre1 ++ cs).toArray (pre2 ++ ds).toArray fs.2).run P w = .ok (eqD τ x y) w) := by
  intro τ
  induction τ with
  | int k =>
    refine ⟨fun {t x y cs ds d} hc he hd hx hy => ?_, fun h => by simp [chk] at h⟩
    obtain ⟨d, rfl⟩ : ∃ d', d = d' + 1 := ⟨d - 1, by simp [nst] at hd; omega⟩
    rw [show cs = _ from hx, show ds = _ from hy, ldV1 rfl, ldV1 rfl, run_equalIn_int w d t k k _ _ (chk_int hc), toI_eqI]; rfl
  | bool =>
    refine ⟨fun {t x y cs ds d} hc he hd hx hy => ?_, fun h => by simp [chk] at h⟩
    obtain ⟨d, rfl⟩ : ∃ d', d = d' + 1 := ⟨d - 1, by simp [nst] at hd; omega⟩
    rw [show cs = _ from hx, show ds = _ from hy, ldV1 rfl, ldV1 rfl, run_equalIn_bool' w d t _ _ (chk_bool hc)]; rfl
  | str =>
    refine ⟨fun {t x y cs ds d} hc he hd hx hy => ?_, fun h => by simp [chk] at h⟩
    obtain ⟨d, rfl⟩ : ∃ d', d = d' + 1 := ⟨d - 1, by simp [nst] at hd; omega⟩
    rw [show cs = _ from hx, show ds = _ from hy, ldV1 rfl, ldV1 rfl, run_equalIn_string w d t _ _ (chk_str hc), bstr_eq]; rfl
  | opq => exact ⟨fun _ he => by simp [eqChk] at he, fun h => by simp [chk] at h⟩
  | sl t ih => exact ⟨fun _ he => by simp [eqChk] at he, fun h => by simp [chk] at h⟩
  | nil =>
    refine ⟨fun {t x y cs ds d} hc he hd hx hy => ?_, fun {fs x y pre1 pre2 cs ds d} h _ _ _ _ _ _ => ?_⟩
    · obtain ⟨d, rfl⟩ : ∃ d', d = d' + 1 := ⟨d - 1, by simp [nst] at hd; omega⟩
      simp only [eqChk, Bool.not_eq_true'] at he
      simp only [chk, Bool.and_eq_true] at hc
      have h2 := hc.2
      split at h2
      · rename_i l hl
        have hl0 : l = [] := by simpa using h2
        subst hl0
        have hfo : P.fieldsOf t = #[] := by simp [Program.fieldsOf, stOf_eq hl]
        have e1 : ldV .nil cs = .agg cs.toArray := rfl
        have e2 : ldV .nil ds = .agg ds.toArray := rfl
        rw [e1, e2, run_equalIn_struct w d t _ _ (by rw [hfo]; exact stOf_eq hl) he, hfo]
        rfl
      · cases h2
    · simp only [chk, List.isEmpty_iff] at h
      rw [h]; rfl
  | arr n u ih =>
    refine ⟨fun {t x y cs ds d} hc he hd hx hy => ?_, fun h => by simp [chk] at h⟩
    obtain ⟨d, rfl⟩ : ∃ d', d = d' + 1 := ⟨d - 1, by simp [nst] at hd; omega⟩
    obtain ⟨e, h1, h2⟩ := chk_arr hc
    have he2 : eqChk P u (.inl e) = true := by
      have : arrOf P t = some (n, e) := by simp [arrOf, h1]
      simp only [eqChk, this] at he; exact he
    have e1 : ldV (.arr n u) cs = .agg cs.toArray := rfl
    have e2 : ldV (.arr n u) ds = .agg ds.toArray := rfl
    rw [e1, e2]
    simp only [Op.equalIn, Sem.run_bind, run_underlying h1, Result.andThen_ok, run_sizeOf h2]
    rw [Std.Legacy.Range.forIn_eq_forIn_range']
    have := eqL_ok (d := d) (w := w) h2 (fun hx hy => ih.1 h2 he2 (by simp [nst] at hd; omega) hx hy) x y cs ds n 0 hx.1 hy.1 (fun i z hz => by simpa using hx.2.2 i z hz) (fun i z hz => by simpa using hy.2.2 i z hz)
    have e3 : ([:n] : Std.Legacy.Range).size = n := by simp
    simp only [e3]
    rw [this]
    simp only [Result.andThen_ok, eqD]
    cases hq : eqL (eqD u) x y <;> simp
  | cons a b iha ihb =>
    have key : ∀ {fs : Nat × List Field} {x y : Den (.cons a b)} {pre1 pre2 cs ds : List Value} {d : Nat}, chk P (.cons a b) (.inr fs) = true → eqChk P (.cons a b) (.inr fs.2) = true → nst a + nst b ≤ d → RepC w0 ok (.cons a b) x cs → RepC w0 ok (.cons a b) y ds → pre1.length = fs.1 → pre2.length = fs.1 →
      (Op.eqFields d (pre1 ++ cs).toArray (pre2 ++ ds).toArray fs.2).run P w = .ok (eqD (.cons a b) x y) w := by
      intro fs x y pre1 pre2 cs ds d hc he hd hx hy hp1 hp2
      obtain ⟨off, fs⟩ := fs
      cases fs with
      | nil => simp [chk] at hc
      | cons f r =>
        simp only [chk, Bool.and_eq_true, fOk, beq_iff_eq, bne_iff_ne] at hc
        simp only [eqChk, Bool.and_eq_true] at he
        obtain ⟨c1, d1, rfl, hx1, hx2⟩ := hx
        obtain ⟨c2, d2, rfl, hy1, hy2⟩ := hy
        have hl1 := hx1.length
        have hl2 := hy1.length
        simp only at hp1 hp2
        have q1 := run_part hc.1.2 (w := w) (cs := pre1 ++ (c1 ++ d1)) (off := off) (by simp; omega)
        have q2 := run_part hc.1.2 (w := w) (cs := pre2 ++ (c2 ++ d2)) (off := off) (by simp; omega)
        have r1 : ((pre1 ++ (c1 ++ d1)).drop off).take a.size = c1 := by rw [← hp1, List.drop_left, List.take_append_of_le_length (by omega), List.take_of_length_le (by omega)]
        have r2 : ((pre2 ++ (c2 ++ d2)).drop off).take a.size = c2 := by rw [← hp2, List.drop_left, List.take_append_of_le_length (by omega), List.take_of_length_le (by omega)]
        rw [r1] at q1
        rw [r2] at q2
        have e1 := iha.1 hc.1.2 he.1 (d := d) (by have := nst_pos b; omega) hx1 hy1
        simp only [Op.eqFields]
        rw [if_pos hc.1.1.2, hc.1.1.1]
        simp only [Sem.run_bind, q1, q2, Result.andThen_ok, e1]
        cases hq : eqD a x.1 y.1 with
        | true =>
          have e2 := ihb.2 (fs := (off + a.size, r)) (pre1 := pre1 ++ c1) (pre2 := pre2 ++ c2) (d := d) hc.2 he.2 (by have := nst_pos a; omega) hx2 hy2 (by simp; omega) (by simp; omega)
          simp only [List.append_assoc] at e2
          simp only [Bool.not_true, Bool.false_eq_true, if_false, e2, eqD, hq, Bool.true_and]
        | false => simp [eqD, hq]
    refine ⟨fun {t x y cs ds d} hc he hd hx hy => ?_, fun {fs x y pre1 pre2 cs ds d} h he hd hx hy h1 h2 => key h he (by simp [nst] at hd; omega) hx hy h1 h2⟩
    obtain ⟨d, rfl⟩ : ∃ d', d = d' + 1 := ⟨d - 1, by simp [nst] at hd; omega⟩
    simp only [eqChk, Bool.and_eq_true, Bool.not_eq_true'] at he
    simp only [chk, Bool.and_eq_true] at hc
    have h2 := hc.2
    split at h2
    · rename_i f r h3
      have he2 := he.2
      rw [h3] at he2
      have hfo : P.fieldsOf t = (f :: r).toArray := by simp [Program.fieldsOf, stOf_eq h3]
      have h4 : chk P (.cons a b) (.inr (0, f :: r)) = true := by
        simp only [chk, Bool.and_eq_true, Nat.zero_add]; simpa only [Bool.and_eq_true] using h2
      have e1 : ldV (.cons a b) cs = .agg cs.toArray := rfl
      have e2 : ldV (.cons a b) ds = .agg ds.toArray := rfl
      rw [e1, e2, run_equalIn_struct w d t _ _ (by rw [hfo]; exact stOf_eq h3) he.1, hfo]
      exact key (fs := (0, f :: r)) (pre1 := []) (pre2 := []) h4 (by simpa [eqChk] using he2) (by simp [nst] at hd; omega) hx hy rfl rfl
    · cases h2
end Go.Sy
namespace Go.Sy
open Go Go.RowKit Go.Lib

def constI : (k : IntKind) → Int → IDen k
  | .i64, n => n
  | k, n => ofI k n
/-- A constant. -/
def ofC : Value → AV
  | .int k n => if toI k (constI k n) = n then .v (.int k) (constI k n) else .top
  | .bool b => .kb b
  | .string s => .v .str (lstr s)
  | .slice none 0 0 => .nils
  | _ => .top
theorem ofC_ok (c : Cx) (v : Value) : AVL c (ofC v) [v] := by
  unfold ofC
  split
  · split
    · rename_i h; exact vint c _ _ _ h.symm
    · exact ⟨_, rfl⟩
  · rfl
  · exact vstr c _ _ (bstr_lstr _).symm
  · rfl
  · exact ⟨_, rfl⟩
def mkPr (ev : Operand → AV) : List Operand → AV
  | [] => .un
  | x :: r => .pr (ev x) (mkPr ev r)
theorem mkPr_ok {c : Cx} {ev : Operand → AV} {ρ : Operand → Value} (h : ∀ x, AVL c (ev x) [ρ x]) : ∀ l : List Operand, AVL c (mkPr ev l) (l.map ρ)
  | [] => rfl
  | x :: r => ⟨_, _, rfl, h x, mkPr_ok h r⟩
def nthPr : AV → Nat → Option AV
  | .pr a _, 0 => some a
  | .pr _ b, n + 1 => nthPr b n
  | _, _ => none
theorem nthPr_ok {c : Cx} : ∀ {a : AV} {n : Nat} {av : AV} {vs : List Value}, nthPr a n = some av → AVL c a vs → ∃ v, vs[n]? = some v ∧ AVL c av [v] := by
  intro a
  induction a with
  | pr a b iha ihb =>
    intro n av vs h hv
    obtain ⟨v, r, rfl, h1, h2⟩ := hv
    cases n with
    | zero => simp [nthPr] at h; subst h; exact ⟨v, rfl, h1⟩
    | succ n => obtain ⟨w, h3, h4⟩ := ihb (show nthPr b n = some av from h) h2; exact ⟨w, by simpa using h3, h4⟩
  | _ => intro n av vs h; simp [nthPr] at h
def oExtract (h : Hp) (x : AV) (i : Nat) : Option (Bool × AV × Hp) :=
  match x with
  | .tup a => (nthPr a i).map fun av => (true, av, h)
  | _ => none
def oPick (E : Env) (h : Hp) (t : TypeId) (c a b : AV) : Option (Bool × AV × Hp) :=
  match c with
  | .kb k => some (true, if k then a else b, h)
  | .v .bool k => (match look E.ty t with
    | some (τ, _) => (match asV τ a, asV τ b with
      | some x, some y => some (true, .v τ (cond k x y), h)
      | _, _ => none)
    | none => none)
  | _ => none
/-- Bools are held as such. -/
def tyB (E : Env) (t : TypeId) (x : AV) : Bool :=
  match x.norm with
  | .v .bool _ => (match look E.ty t with | some (.bool, _) => true | _ => false)
  | _ => true
def oBin (E : Env) (h : Hp) (op : BinOp) (t : TypeId) (x y : AV) : Option (Bool × AV × Hp) :=
  match look E.eq t with
  | some τ => (match op, asV τ x, asV τ y with
    | .eql, some a, some b => some (true, .v .bool (eqD τ a b), h)
    | .neq, some a, some b => some (true, .v .bool (!eqD τ a b), h)
    | _, _, _ => none)
  | none => if tyB E t x then (binA op x y).map fun r => (r.1, r.2, h) else none
def oNil (h : Hp) (x : AV) : Option (Bool × AV × Hp) :=
  match x with
  | .dp .. => some (true, x, h)
  | .fn .. => some (true, x, h)
  | .ref o _ => (match h.get o with | .box .. => some (true, x, h) | .row .. => some (true, x, h) | _ => none)
  | _ => none
def oBuiltin (E : Env) (h : Hp) (nid : Nat) (b : Builtin) (ts : List TypeId) (as : List AV) : Option (Bool × AV × Hp) :=
  match b, ts, as with
  | .len, [t], [x] => oLen E h t x
  | .append, [t1, t2], [s, x] => oAppend E h nid t1 t2 s x
  | .copy, [t1, t2], [d, x] => oCopy E h t1 t2 d x
  | .min, _, [x, y] => oMin h x y
  | .max, _, [x, y] => oMax h x y
  | _, _, _ => none
/-- An operation that calls no Go function. -/
def opV (E : Env) (h : Hp) (nid : Nat) (ev : Operand → AV) (ty : TypeId) : Op → Option (Bool × AV × Hp)
  | .move x => some (true, ev x, h)
  | .assign x => some (true, ev x, h)
  | .pick c a b => oPick E h ty (ev c) (ev a) (ev b)
  | .alloc t => oAlloc E h nid t
  | .box t x => oBox E h nid t (ev x)
  | .build t ps => oBuild E h t ev ps.toList
  | .buildSlice t n ps => oBuildSlice E h nid t n ev ps.toList
  | .load t a => oLoad E h t (ev a)
  | .store t a x => oStore E h t (ev a) (ev x)
  | .nilCheck x => oNil h (ev x)
  | .binOp op t x y _ => oBin E h op t (ev x) (ev y)
  | .unOp op _ x => oUn h op (ev x)
  | .convert s d x => (match oConv E h s d (ev x) with | some r => some r | none => oConvB E h s d (ev x))
  | .makeFunc (.func f) first cap => (match first.toList with | [] => some (true, .fn f (mkPr ev cap.toList), h) | _ => none)
  | .makeSlice t l c => oMake E h nid t (ev l) (ev c)
  | .slice t x lo hi mx => oSlice E h nid t (ev x) (lo.map ev) (hi.map ev) (mx.map ev)
  | .fieldAddr s x f => oFieldAddr E h s f (ev x)
  | .field s x f => oField E h s f (ev x)
  | .indexAddr t x i => oIndexAddr E h t (ev x) (ev i)
  | .index t x i => oIndex E h t (ev x) (ev i)
  | .extract x i => oExtract h (ev x) i
  | .call ⟨.builtin b, args, ts⟩ => oBuiltin E h nid b ts.toList (args.toList.map ev)
  | _ => none
theorem ite_AVL {c : Cx} {k : Bool} {a b : AV} {v w : Value} (h1 : AVL c a [v]) (h2 : AVL c b [w]) : AVL c (if k then a else b) [if k then v else w] := by
  cases k
  · exact h2
  · exact h1
theorem oPick_ok {E : Env} {c : Cx} {h h' : Hp} {t : TypeId} {x a b av : AV} {g : Bool} {u v w : Value} (ho : c.Ok E) (hh : c.objs = h.objs)
    (hl : oPick E h t x a b = some (g, av, h')) (hx : AVL c x [u]) (ha : AVL c a [v]) (hb : AVL c b [w]) : Good E c h h' (do pure (.value (if ← asBool u then v else w))) av := by
  unfold oPick at hl
  split at hl
  · rename_i k
    simp only [Option.some.injEq, Prod.mk.injEq] at hl
    obtain ⟨_, rfl, rfl⟩ := hl
    have hx : [u] = [Value.bool k] := hx
    cases hx
    exact Good.same ho hh (v := if k then v else w) rfl (ite_AVL ha hb)
  · rename_i k
    split at hl
    · rename_i τ n hty
      split at hl
      · rename_i xa xb h1 h2
        simp only [Option.some.injEq, Prod.mk.injEq] at hl
        obtain ⟨_, rfl, rfl⟩ := hl
        obtain ⟨u', hu, hk⟩ := hx
        cases hu
        have hk := VRep_bool hk
        subst hk
        refine Good.same ho hh (v := if k then v else w) rfl (AVL_v ?_)
        cases k
        · exact asV_ok h2 hb
        · exact asV_ok h1 ha
      · cases hl
    · cases hl
  · cases hl
theorem guard_int {P : Program} {op : BinOp} {t : TypeId} {x y : Operand} {k j : IntKind} {a b : Int} (w : World) : (eqGuard op t x y (.int k a) (.int j b)).run P w = .ok () w := by cases op <;> rfl
theorem guard_str {P : Program} {op : BinOp} {t : TypeId} {x y : Operand} {a b : ByteArray} (w : World) : (eqGuard op t x y (.string a) (.string b)).run P w = .ok () w := by cases op <;> rfl
theorem guard_bool {P : Program} {op : BinOp} {t : TypeId} {x y : Operand} {a b : Bool} (w : World) : (eqGuard op t x y (.bool a) (.bool b)).run P w = .ok () w := by cases op <;> rfl
theorem equal_eq (t : TypeId) (x y : Value) : Op.equal t x y = Op.equalIn (9999 + 1) t x y := rfl
theorem binB_ok {c : Cx} {op : BinOp} {a b : Bool} {g : Bool} {av : AV} {t : TypeId} (h : binB op a b = some (g, av)) (ht : c.P.underlying t = some .bool) (w : World) :
    ∃ v, (binOp op t (.bool a) (.bool b)).run c.P w = .ok v w ∧ AVL c av [v] := by
  have he : (Op.equal t (.bool a) (.bool b)).run c.P w = .ok (a == b) w := by rw [equal_eq]; exact run_equalIn_bool' w 9999 t a b ht
  cases op <;> simp only [binB, Option.some.injEq, Prod.mk.injEq, reduceCtorEq] at h <;> obtain ⟨_, rfl⟩ := h
  · refine ⟨.bool (a == b), ?_, vbool c _ _ rfl⟩
    simp only [binOp, Sem.run_bind, he, Result.andThen_ok, Sem.run_pure]
  · refine ⟨.bool (!(a == b)), ?_, vbool c _ _ rfl⟩
    simp only [binOp, Sem.run_bind, he, Result.andThen_ok, Sem.run_pure]
theorem oBin_ok {E : Env} {c : Cx} {h h' : Hp} {op : BinOp} {t : TypeId} {x y av : AV} {xo yo : Operand} {g : Bool} {u v : Value} (hE : E.Ok c.P) (ho : c.Ok E) (hh : c.objs = h.objs)
    (hl : oBin E h op t x y = some (g, av, h')) (hg : g = true) (hx : AVL c x [u]) (hy : AVL c y [v]) :
    Good E c h h' (do pure (.value (← (do eqGuard op t xo yo u v; binOp op t u v)))) av := by
  unfold oBin at hl
  split at hl
  · rename_i τ hq
    obtain ⟨q1, q2, q3, q4, q5⟩ := hE.eq t τ hq
    have key : ∀ {a b : Den τ}, asV τ x = some a → asV τ y = some b → ∃ xs ys : Array Value, u = .agg xs ∧ v = .agg ys ∧ (Op.equalIn 10000 t (.agg xs) (.agg ys)).run c.P c.w = .ok (eqD τ a b) c.w := by
      intro a b ha hb
      have h1 := asV_ok ha hx
      have h2 := asV_ok hb hy
      unfold VRep at h1 h2
      rw [if_pos q5] at h1 h2
      obtain ⟨cs, rfl, h3⟩ := h1
      obtain ⟨ds, rfl, h4⟩ := h2
      refine ⟨_, _, rfl, rfl, ?_⟩
      have := (eqD_ok (w := c.w)).1 q1 q2 q4 h3 h4
      unfold ldV at this
      rw [if_pos q5, if_pos q5] at this
      exact this
    split at hl
    · rename_i a b ha hb
      simp only [Option.some.injEq, Prod.mk.injEq] at hl
      obtain ⟨_, rfl, rfl⟩ := hl
      obtain ⟨xs, ys, rfl, rfl, h1⟩ := key ha hb
      refine Good.of_val (v := .bool (eqD τ a b)) (w' := c.w) ?_ ⟨c, rfl, hh, ho, Cx.Evol.refl c, Hp.Agr.refl _, vbool c _ _ rfl⟩
      rw [Sem.run_bind, run_eqGuard_agg c.w .eql t xo yo xs ys q3, Result.andThen_ok, run_eql_struct, h1]; rfl
    · rename_i a b ha hb
      simp only [Option.some.injEq, Prod.mk.injEq] at hl
      obtain ⟨_, rfl, rfl⟩ := hl
      obtain ⟨xs, ys, rfl, rfl, h1⟩ := key ha hb
      refine Good.of_val (v := .bool (!eqD τ a b)) (w' := c.w) ?_ ⟨c, rfl, hh, ho, Cx.Evol.refl c, Hp.Agr.refl _, vbool c _ _ rfl⟩
      rw [Sem.run_bind, run_eqGuard_agg c.w .neq t xo yo xs ys q3, Result.andThen_ok, run_neq_struct, h1]; rfl
    · cases hl
  · split at hl
    · rename_i hbt
      simp only [Option.map_eq_some_iff] at hl
      obtain ⟨⟨g', av'⟩, hb, he⟩ := hl
      simp only [Prod.mk.injEq] at he
      obtain ⟨he1, he2, he3⟩ := he
      subst he1; subst he2; subst he3
      have hx := hx.norm
      have hy := hy.norm
      unfold binA at hb
      split at hb
      · rename_i k a j b h1 h2
        rw [h1] at hx; rw [h2] at hy
        obtain ⟨u', hu, hx⟩ := hx
        cases hu
        obtain ⟨v', hv, hy⟩ := hy
        cases hv
        have hx := VRep_int hx
        have hy := VRep_int hy
        subst hx; subst hy
        have fin : (∃ v, (binOp op t (.int k (toI k a)) (.int j (toI j b))).run c.P c.w = .ok v c.w ∧ AVL c av' [v]) → Good E c h h (do pure (.value (← (do eqGuard op t xo yo (.int k (toI k a)) (.int j (toI j b)); binOp op t (.int k (toI k a)) (.int j (toI j b)))))) av' := by
          rintro ⟨v, h3, h4⟩
          exact Good.of_val (v := v) (w' := c.w) (by rw [Sem.run_bind, guard_int, Result.andThen_ok, h3]) ⟨c, rfl, hh, ho, Cx.Evol.refl c, Hp.Agr.refl _, h4⟩
        split at hb
        · exact fin (binSh_ok hb hg t c.w)
        · exact fin (binSh_ok hb hg t c.w)
        · split at hb
          · rename_i hk
            have hk' := kbeq_eq hk
            subst hk'
            exact fin (binI_ok hb hg t c.w)
          · cases hb
      · rename_i a b h1 h2
        rw [h1] at hx; rw [h2] at hy
        obtain ⟨u', hu, hx⟩ := hx
        cases hu
        obtain ⟨v', hv, hy⟩ := hy
        cases hv
        have hx := VRep_str hx
        have hy := VRep_str hy
        subst hx; subst hy
        obtain ⟨v, h3, h4⟩ := binS_ok (c := c) hb hg t c.w
        exact Good.of_val (v := v) (w' := c.w) (by rw [Sem.run_bind, guard_str, Result.andThen_ok, h3]) ⟨c, rfl, hh, ho, Cx.Evol.refl c, Hp.Agr.refl _, h4⟩
      · rename_i a b h1 h2
        rw [h1] at hx; rw [h2] at hy
        obtain ⟨u', hu, hx⟩ := hx
        cases hu
        obtain ⟨v', hv, hy⟩ := hy
        cases hv
        have hx := VRep_bool hx
        have hy := VRep_bool hy
        subst hx; subst hy
        obtain ⟨v, h3, h4⟩ := binB_ok (c := c) (t := t) hb (by
          unfold tyB at hbt
          rw [h1] at hbt
          simp only at hbt
          split at hbt
          · rename_i n hty; exact chk_bool (hE.ty t _ _ hty).1
          · cases hbt) c.w
        exact Good.of_val (v := v) (w' := c.w) (by rw [Sem.run_bind, guard_bool, Result.andThen_ok, h3]) ⟨c, rfl, hh, ho, Cx.Evol.refl c, Hp.Agr.refl _, h4⟩
      · cases hb
    · cases hl
end Go.Sy
namespace Go.Sy
open Go Go.RowKit Go.Lib

theorem Good.congr {E : Env} {c : Cx} {h h' : Hp} {s s' : Sem Next} {av : AV} (hs : s.run c.P c.w = s'.run c.P c.w) (hg : Good E c h h' s av) : Good E c h h' s' av := by
  unfold Good at hg ⊢; rw [← hs]; exact hg
theorem oNil_ok {c : Cx} {h h' : Hp} {x av : AV} {g : Bool} {v : Value} (hh : c.objs = h.objs) (hl : oNil h x = some (g, av, h')) (hx : AVL c x [v]) :
    av = x ∧ h' = h ∧ ((∃ a, v = .pointer (some a)) ∨ ∃ (f : Nat) (cs : Array Value), v = .func (.func f) #[] cs) := by
  unfold oNil at hl
  split at hl
  · simp only [Option.some.injEq, Prod.mk.injEq] at hl
    obtain ⟨_, rfl, rfl⟩ := hl
    obtain ⟨b, o, ds, hv, _⟩ := hx
    cases hv
    exact ⟨rfl, rfl, .inl ⟨_, rfl⟩⟩
  · simp only [Option.some.injEq, Prod.mk.injEq] at hl
    obtain ⟨_, rfl, rfl⟩ := hl
    obtain ⟨cs, hv, _⟩ := hx
    cases hv
    exact ⟨rfl, rfl, .inr ⟨_, _, rfl⟩⟩
  · rename_i o q
    obtain ⟨v', hv, _, hr⟩ := hx
    cases hv
    have hgo : c.objs.getD o .free = h.get o := by rw [hh]; rfl
    unfold RefRel at hr
    rw [hgo] at hr
    split at hl
    · rename_i t b hgx
      rw [hgx] at hr
      obtain ⟨b', off, t', _, _, rfl⟩ := hr
      simp only [Option.some.injEq, Prod.mk.injEq] at hl
      obtain ⟨_, rfl, rfl⟩ := hl
      exact ⟨rfl, rfl, .inl ⟨_, rfl⟩⟩
    · rename_i e t l own hgx
      rw [hgx] at hr
      obtain ⟨b', len, cap, off, t', _, _, rfl⟩ := hr
      simp only [Option.some.injEq, Prod.mk.injEq] at hl
      obtain ⟨_, rfl, rfl⟩ := hl
      exact ⟨rfl, rfl, .inl ⟨_, rfl⟩⟩
    · cases hl
  · cases hl
theorem arr1 {α : Type} {a : Array α} {x : α} (h : a.toList = [x]) : a = #[x] := by apply Array.ext'; exact h
theorem arr2 {α : Type} {a : Array α} {x y : α} (h : a.toList = [x, y]) : a = #[x, y] := by apply Array.ext'; exact h
theorem map1 {α β : Type} {f : α → β} {a : Array α} {y : β} (h : a.toList.map f = [y]) : ∃ x, a = #[x] ∧ f x = y := by
  cases a with | mk l => match l, h with
  | [x], h => exact ⟨x, rfl, by simpa using h⟩
theorem map2 {α β : Type} {f : α → β} {a : Array α} {y z : β} (h : a.toList.map f = [y, z]) : ∃ x w, a = #[x, w] ∧ f x = y ∧ f w = z := by
  cases a with | mk l => match l, h with
  | [x, w], h => simp at h; exact ⟨x, w, rfl, h.1, h.2⟩
theorem opV_ok {E : Env} {c : Cx} {h h' : Hp} {nid : Nat} {ev : Operand → AV} {ρ : Operand → Value} {o : Oper} {av : AV} {g : Bool} (hE : E.Ok c.P) (ho : c.Ok E) (hh : c.objs = h.objs)
    (hev : ∀ x, AVL c (ev x) [ρ x]) (hl : opV E h nid ev o.type o.op = some (g, av, h')) (hg : g = true) : Good E c h h' (execOp ρ o) av := by
  obtain ⟨dst, op, type, pos, after, guard⟩ := o
  simp only at hl
  unfold opV at hl
  split at hl
  · rename_i x
    simp only [Option.some.injEq, Prod.mk.injEq] at hl
    obtain ⟨_, rfl, rfl⟩ := hl
    exact Good.same ho hh rfl (hev x)
  · rename_i x
    simp only [Option.some.injEq, Prod.mk.injEq] at hl
    obtain ⟨_, rfl, rfl⟩ := hl
    exact Good.same ho hh rfl (hev x)
  · exact oPick_ok ho hh hl (hev _) (hev _) (hev _)
  · exact oAlloc_ok hE ho hh hl hg
  · exact oBox_ok ho hh hl hg (hev _)
  · exact oBuild_ok hE ho hh hl hev
  · exact oBuildSlice_ok hE ho hh hl hg hev
  · exact oLoad_ok hE ho hh hl (hev _)
  · exact oStore_ok hE ho hh hl (hev _) (hev _)
  · rename_i x
    have hx := hev x
    obtain ⟨rfl, rfl, h3⟩ := oNil_ok hh hl hx
    refine Good.same ho hh (v := ρ x) ?_ hx
    rcases h3 with ⟨a, h3⟩ | ⟨f, cs, h3⟩ <;> simp [execOp, h3]
  · exact oBin_ok hE ho hh hl hg (hev _) (hev _)
  · exact oUn_ok ho hh hl (hev _)
  · split at hl
    · rename_i r hr
      cases hl
      exact oConv_ok hE ho hh hr (hev _)
    · exact oConvB_ok hE ho hh hl (hev _)
  · rename_i f first cap
    split at hl
    · rename_i hf
      simp only [Option.some.injEq, Prod.mk.injEq] at hl
      obtain ⟨_, rfl, rfl⟩ := hl
      have hf' : first = #[] := by apply Array.ext'; simpa using hf
      subst hf'
      refine Good.same ho hh (v := .func (.func f) #[] (cap.map ρ)) (by simp [execOp, Instr.makeFunc]) ⟨cap.toList.map ρ, ?_, mkPr_ok hev _⟩
      congr 2
      apply Array.ext'; simp
    · cases hl
  · exact oMake_ok hE ho hh hl hg (hev _) (hev _)
  · rename_i t x lo hi mx
    have conv : ∀ (z : Option Operand) (a : AV), z.map ev = some a → ∃ v, z.map ρ = some v ∧ AVL c a [v] := by
      intro z a hz
      cases z with
      | none => cases hz
      | some z => simp at hz; subst hz; exact ⟨ρ z, rfl, hev z⟩
    have conv0 : ∀ (z : Option Operand), z.map ev = none → z.map ρ = none := by
      intro z hz
      cases z with
      | none => rfl
      | some z => cases hz
    exact oSlice_ok hE ho hh hl hg (hev _) (conv lo) (conv0 lo) (conv hi) (conv0 hi) (conv mx) (conv0 mx)
  · exact oFieldAddr_ok hE ho hh hl (hev _)
  · exact oField_ok hE ho hh hl (hev _)
  · exact oIndexAddr_ok hE ho hh hl hg (hev _) (hev _)
  · exact oIndex_ok hE ho hh hl hg (hev _) (hev _)
  · rename_i x i
    unfold oExtract at hl
    split at hl
    · rename_i a hx
      simp only [Option.map_eq_some_iff] at hl
      obtain ⟨b, hb, he⟩ := hl
      simp only [Prod.mk.injEq] at he
      obtain ⟨_, rfl, rfl⟩ := he
      have hx2 := hev x
      rw [hx] at hx2
      obtain ⟨cs, hv, hcs⟩ := hx2
      obtain ⟨v, h1, h2⟩ := nthPr_ok hb hcs
      refine Good.of_val (v := v) (w' := c.w) ?_ ⟨c, rfl, hh, ho, Cx.Evol.refl c, Hp.Agr.refl _, h2⟩
      have hv : ρ x = .tuple cs.toArray := by simpa using hv
      rw [hv]
      simp [Instr.extract, h1]
    · cases hl
  · rename_i b args ts
    unfold oBuiltin at hl
    split at hl
    · rename_i t x h1 h2
      obtain ⟨x, rfl, rfl⟩ := map1 h2
      have := arr1 h1
      subst this
      refine Good.congr ?_ (oLen_ok (ty := type) hE ho hh hl (hev x))
      simp [execOp, resolve, invoke, builtin]
    · rename_i t1 t2 s x h1 h2
      obtain ⟨s, x, rfl, rfl, rfl⟩ := map2 h2
      have := arr2 h1
      subst this
      refine Good.congr ?_ (oAppend_ok (ty := type) hE ho hh hl hg (hev s) (hev x))
      simp [execOp, resolve, invoke, builtin]
    · rename_i t1 t2 d x h1 h2
      obtain ⟨d, x, rfl, rfl, rfl⟩ := map2 h2
      have := arr2 h1
      subst this
      refine Good.congr ?_ (oCopy_ok (ty := type) hE ho hh hl (hev d) (hev x))
      simp [execOp, resolve, invoke, builtin]
    · rename_i x y h2
      obtain ⟨x, y, rfl, rfl, rfl⟩ := map2 h2
      refine Good.congr ?_ (oMin_ok (ts := ts) (ty := type) ho hh hl (hev x) (hev y))
      simp [execOp, resolve, invoke, builtin]
    · rename_i x y h2
      obtain ⟨x, y, rfl, rfl, rfl⟩ := map2 h2
      refine Good.congr ?_ (oMax_ok (ts := ts) (ty := type) ho hh hl (hev x) (hev y))
      simp [execOp, resolve, invoke, builtin]
    · cases hl
  · cases hl
end Go.Sy
namespace Go.Sy
open Go Go.RowKit Go.Lib

/-- The objects are named anew: number o is now what number (s o) was; some are given up. -/
abbrev Cx.re (c : Cx) (L : List Ob) (s : Nat → Option Nat) : Cx :=
  { c with objs := L, φ := fun o => match s o with | some o' => c.φ o' | none => .slice none 0 0 }
theorem Cx.re_okr {c : Cx} {L : List Ob} {s : Nat → Option Nat} (h1 : ∀ o o', s o = some o' → (L.getD o .free).mut = true → (c.objs.getD o' .free).mut = true ∨ blkOf (c.φ o') = none) :
    ∀ b, c.okr b → (c.re L s).okr b := by
  intro b hb
  refine ⟨hb.1, fun o ho => ?_⟩
  show blkOf (match s o with | some o' => c.φ o' | none => .slice none 0 0) ≠ some b
  cases hs : s o with
  | none => simp [blkOf]
  | some o' =>
    rcases h1 o o' hs ho with h2 | h2
    · exact hb.2 o' h2
    · show blkOf (c.φ o') ≠ some b
      rw [h2]; simp
theorem Cx.re_okb {c : Cx} {L : List Ob} {s : Nat → Option Nat} (h1 : ∀ o o', s o = some o' → (L.getD o .free).mut = true → (c.objs.getD o' .free).mut = true ∨ blkOf (c.φ o') = none) :
    ∀ b, c.okb b → c.w.heap[b]? = c.w.heap[b]? ∧ (c.re L s).okb b := fun b hb => ⟨rfl, hb.1, Cx.re_okr h1 b hb.2⟩
theorem Cx.re_ok {E : Env} {c : Cx} {L : List Ob} {s : Nat → Option Nat} (h : c.Ok E)
    (h1 : ∀ o o', s o = some o' → (L.getD o .free).mut = true → (c.objs.getD o' .free).mut = true ∨ blkOf (c.φ o') = none)
    (h2 : ∀ o p a, o ≠ p → s o = some a → s p = some a → (L.getD o .free).mut = true → (L.getD p .free).mut = true → False)
    (h3 : ∀ o, ORel (c.re L s) ((c.re L s).φ o) (L.getD o .free))
    (h4 : ∀ o e t l, L.getD o .free = .row e t l false → ∀ b, blkOf ((c.re L s).φ o) = some b → c.okb b) : (c.re L s).Ok E := by
  have hphi : ∀ o b, blkOf ((c.re L s).φ o) = some b → ∃ o', s o = some o' ∧ blkOf (c.φ o') = some b := by
    intro o b hb
    have hb : blkOf (match s o with | some o' => c.φ o' | none => .slice none 0 0) = some b := hb
    cases hs : s o with
    | none => rw [hs] at hb; simp [blkOf] at hb
    | some o' => rw [hs] at hb; exact ⟨o', rfl, hb⟩
  refine ⟨h.base, h.low, h3, fun o o' hne hm hm' hbb => ?_, fun o b ho hb => ?_, fun o e t l ho b hb => (Cx.re_okb h1 b (h4 o e t l ho b hb)).2, fun g x hg => ?_⟩
  · cases hb1 : blkOf ((c.re L s).φ o) with
    | none => rfl
    | some b =>
      exfalso
      obtain ⟨a, ha, hab⟩ := hphi o b hb1
      obtain ⟨a', ha', hab'⟩ := hphi o' b (by rw [← hbb, hb1])
      have hm1 := (h1 o a ha hm).resolve_right (by rw [hab]; simp)
      have hm2 := (h1 o' a' ha' hm').resolve_right (by rw [hab']; simp)
      by_cases e : a = a'
      · subst e; exact h2 o o' a hne ha ha' hm hm'
      · have := h.inj a a' e hm1 hm2 (hab.trans hab'.symm)
        rw [hab] at this; cases this
  · obtain ⟨a, ha, hab⟩ := hphi o b hb
    exact h.high a b ((h1 o a ha ho).resolve_right (by rw [hab]; simp)) hab
  · obtain ⟨ds, k1, k2, k3⟩ := h.glob g x hg
    exact ⟨ds, k1, k2.mono (Cx.re_okb h1), (Cx.re_okb h1 g k3).2⟩
theorem Cx.re_evol {c c' : Cx} {L : List Ob} {s : Nat → Option Nat} (h : c.Evol c')
    (h1 : ∀ o o', s o = some o' → (L.getD o .free).mut = true → (c'.objs.getD o' .free).mut = true ∨ blkOf (c'.φ o') = none)
    (h2 : ∀ o, (c.objs.getD o .free matches .free) = false → s o = some o ∧ (c.objs.getD o .free).leads (L.getD o .free)) : c.Evol (c'.re L s) := by
  refine ⟨h.P, h.ok0, h.base, h.os, h.tape, h.output, h.size, fun b hb => ⟨(h.okr b hb).1, Cx.re_okr h1 b (h.okr b hb).2⟩, fun o ho => ?_, fun o => ?_, h.hid⟩
  · show (match s o with | some o' => c'.φ o' | none => .slice none 0 0) = _
    rw [(h2 o ho).1]; exact h.phi o ho
  · by_cases e : (c.objs.getD o .free matches .free) = false
    · exact (h2 o e).2
    · show (c.objs.getD o .free).leads (L.getD o .free)
      cases hx : c.objs.getD o .free <;> rw [hx] at e <;> simp at e
      trivial

/-- A loop, with no bound: what it gives once it ends. -/
def loopN {X R : Type} (f : X → Option (R ⊕ X)) : Nat → X → Option R
  | 0, _ => none
  | n + 1, x => match f x with
    | some (.inl r) => some r
    | some (.inr y) => loopN f n y
    | none => none
theorem loopN_mono {X R : Type} {f : X → Option (R ⊕ X)} : ∀ {n m : Nat} {x : X} {r : R}, n ≤ m → loopN f n x = some r → loopN f m x = some r
  | 0, _, _, _, _, h => by cases h
  | n + 1, 0, _, _, hl, _ => by omega
  | n + 1, m + 1, x, r, hl, h => by
    simp only [loopN] at h ⊢
    cases hf : f x with
    | none => rw [hf] at h; cases h
    | some y =>
      rw [hf] at h
      cases y with
      | inl y => exact h
      | inr y => exact loopN_mono (by omega) h
open Classical in
noncomputable def loopT {X R : Type} (f : X → Option (R ⊕ X)) (x : X) : Option R :=
  if h : ∃ n r, loopN f n x = some r then some (Classical.choose (Classical.choose_spec h)) else none
theorem loopT_iff {X R : Type} {f : X → Option (R ⊕ X)} {x : X} {r : R} : loopT f x = some r ↔ ∃ n, loopN f n x = some r := by
  unfold loopT
  split
  · rename_i h
    have hc := Classical.choose_spec (Classical.choose_spec h)
    constructor
    · intro e; cases e; exact ⟨_, hc⟩
    · rintro ⟨n, hn⟩
      have h1 := loopN_mono (Nat.le_max_left n (Classical.choose h)) hn
      have h2 := loopN_mono (Nat.le_max_right n (Classical.choose h)) hc
      rw [h1] at h2
      exact h2.symm
  · rename_i h
    constructor
    · intro e; cases e
    · rintro ⟨n, hn⟩; exact absurd ⟨n, r, hn⟩ h
theorem loopT_step {X R : Type} {f : X → Option (R ⊕ X)} {x : X} : loopT f x = match f x with | some (.inl r) => some r | some (.inr y) => loopT f y | none => none := by
  have key : ∀ r, loopT f x = some r ↔ (match f x with | some (.inl r) => some r | some (.inr y) => loopT f y | none => none) = some r := by
    intro r
    rw [loopT_iff]
    constructor
    · rintro ⟨n, hn⟩
      cases n with
      | zero => cases hn
      | succ n =>
        simp only [loopN] at hn
        split <;> rename_i hf <;> rw [hf] at hn
        · exact hn
        · exact loopT_iff.2 ⟨n, hn⟩
        · cases hn
    · intro h
      split at h <;> rename_i hf
      · exact ⟨1, by simp [loopN, hf, h]⟩
      · obtain ⟨n, hn⟩ := loopT_iff.1 h
        exact ⟨n + 1, by simp [loopN, hf, hn]⟩
      · cases h
  cases h1 : loopT f x with
  | some r => exact ((key r).1 h1).symm
  | none =>
    cases h2 : (match f x with | some (.inl r) => some r | some (.inr y) => loopT f y | none => none) with
    | none => rfl
    | some r => rw [(key r).2 h2] at h1; cases h1
end Go.Sy
namespace Go.Sy
open Go Go.RowKit Go.Lib

/-- What is known in a call: its slots, its objects, and which slots were written. -/
structure St where
  tm : List AV
  hp : Hp
  dT : List Nat
def St.put (st : St) (dst : Option Nat) (av : AV) (hp : Hp) : St :=
  match dst with
  | some d => ⟨st.tm.set d av, hp, d :: st.dT⟩
  | none => ⟨st.tm, hp, st.dT⟩
def St.know (st : St) (d : Nat) (b : Bool) : St := ⟨st.tm.set d (.kb b), st.hp, st.dT⟩
def evO (E : Env) (tm : List AV) : Operand → AV
  | .tmp t => tm.getD t .top
  | .const v => ofC v
  | .global g => match look E.gl g with
    | some x => .dp x.t x.x
    | none => .top
  | .func f => .fn f .un
theorem look_mem {α : Type} : ∀ {l : List (Nat × α)} {k : Nat} {x : α}, look l k = some x → (k, x) ∈ l
  | (i, y) :: l, k, x, h => by
    unfold look at h
    split at h
    · rename_i e; cases h; rw [Nat.eq_of_beq_eq_true e]; exact List.mem_cons_self
    · exact List.mem_cons_of_mem _ (look_mem h)
structure Sm (E : Env) (c : Cx) (st : St) (a : Act) : Prop where
  ok : c.Ok E
  objs : c.objs = st.hp.objs
  size : a.tmps.size = st.tm.length
  av : ∀ i, AVL c (st.tm.getD i .top) [a.tmps.getD i undef]
  defers : a.defers = []
structure Gone (c : Cx) (st : St) (a : Act) (c' : Cx) (st' : St) (a' : Act) : Prop where
  evol : c.Evol c'
  agr : st.hp.Agr st'.hp
  dT : ∀ i, st.dT.contains i = true → st'.dT.contains i = true
  tm : ∀ i, st'.dT.contains i = false → a'.tmps.getD i undef = a.tmps.getD i undef
  len : st'.tm.length = st.tm.length
theorem Gone.refl (c : Cx) (st : St) (a : Act) : Gone c st a c st a := ⟨Cx.Evol.refl c, Hp.Agr.refl _, fun _ h => h, fun _ _ => rfl, rfl⟩
theorem Gone.trans {c₁ c₂ c₃ : Cx} {s₁ s₂ s₃ : St} {a₁ a₂ a₃ : Act} (h : Gone c₁ s₁ a₁ c₂ s₂ a₂) (k : Gone c₂ s₂ a₂ c₃ s₃ a₃) : Gone c₁ s₁ a₁ c₃ s₃ a₃ :=
  ⟨h.evol.trans k.evol, h.agr.trans k.agr, fun i hi => k.dT i (h.dT i hi), fun i hi => (k.tm i hi).trans (h.tm i (by
    cases hb : s₂.dT.contains i with
    | false => rfl
    | true => rw [k.dT i hb] at hi; cases hi)), k.len.trans h.len⟩
theorem evO_ok {E : Env} {c : Cx} {st : St} {a : Act} (h : Sm E c st a) (x : Operand) : AVL c (evO E st.tm x) [a.eval x] := by
  cases x with
  | tmp t => exact h.av t
  | const v => exact ofC_ok c v
  | global g =>
    show AVL c (match look E.gl g with | some x => AV.dp x.t x.x | none => .top) _
    split
    · rename_i x hx
      obtain ⟨ds, h1, h2, h3⟩ := h.ok.glob g x (look_mem hx)
      exact ⟨g, 0, ds, rfl, h3.2, h1.cells, h2⟩
    · exact ⟨_, rfl⟩
  | func f => exact ⟨[], rfl, rfl⟩
theorem getD_set_list {l : List AV} {d i : Nat} {x : AV} : (l.set d x).getD i .top = if i = d ∧ d < l.length then x else l.getD i .top := by
  simp only [List.getD_eq_getElem?_getD, List.getElem?_set]
  by_cases e : d = i
  · subst e
    rw [if_pos rfl]
    split
    · rename_i h; rw [if_pos ⟨rfl, h⟩]; rfl
    · rename_i h; rw [if_neg (fun k => h k.2), List.getElem?_eq_none (by omega)]
  · rw [if_neg e, if_neg (fun k => e k.1.symm)]
theorem getD_setIfInBounds {l : Array Value} {d i : Nat} {x : Value} : (l.setIfInBounds d x).getD i undef = if i = d ∧ d < l.size then x else l.getD i undef := by
  simp only [Array.getD_eq_getD_getElem?, Array.getElem?_setIfInBounds]
  by_cases e : d = i
  · subst e
    rw [if_pos rfl]
    split
    · rename_i h; rw [if_pos ⟨rfl, h⟩]; rfl
    · rename_i h; rw [if_neg (fun k => h k.2), Array.getElem?_eq_none (by omega)]
  · rw [if_neg e, if_neg (fun k => e k.1.symm)]
/-- A value is put into a slot. -/
theorem Sm.put {E : Env} {c c' : Cx} {st : St} {a : Act} {dst : Option Nat} {av : AV} {h' : Hp} {v : Value} (h : Sm E c st a) (ho : c'.Ok E) (hobj : c'.objs = h'.objs) (he : c.Evol c') (hg : st.hp.Agr h')
    (hv : AVL c' av [v]) : Sm E c' (st.put dst av h') (a.put dst v) ∧ Gone c st a c' (st.put dst av h') (a.put dst v) := by
  cases dst with
  | none => exact ⟨⟨ho, hobj, h.size, fun i => (h.av i).evol he, h.defers⟩, ⟨he, hg, fun _ h => h, fun _ _ => rfl, rfl⟩⟩
  | some d =>
    refine ⟨⟨ho, hobj, by simp [Act.put, St.put, h.size], fun i => ?_, h.defers⟩, ⟨he, hg, fun i hi => by simp [St.put] at hi ⊢; exact .inr hi, fun i hi => ?_, by simp [St.put]⟩⟩
    · show AVL c' ((st.tm.set d av).getD i .top) [(a.tmps.setIfInBounds d v).getD i undef]
      rw [getD_set_list, getD_setIfInBounds, h.size]
      split
      · exact hv
      · exact (h.av i).evol he
    · show (a.tmps.setIfInBounds d v).getD i undef = _
      rw [getD_setIfInBounds, if_neg]
      rintro ⟨rfl, _⟩
      simp [St.put] at hi
theorem Sm.know {E : Env} {c : Cx} {st : St} {a : Act} {d : Nat} {b : Bool} (h : Sm E c st a) (hd : a.tmps.getD d undef = .bool b) : Sm E c (st.know d b) a ∧ Gone c st a c (st.know d b) a := by
  refine ⟨⟨h.ok, h.objs, by simp [St.know, h.size], fun i => ?_, h.defers⟩, ⟨Cx.Evol.refl c, Hp.Agr.refl _, fun _ h => h, fun _ _ => rfl, by simp [St.know]⟩⟩
  show AVL c ((st.tm.set d (.kb b)).getD i .top) _
  rw [getD_set_list]
  split
  · rename_i e; rw [e.1, hd]; rfl
  · exact h.av i

/-- How the call of a function is carried on. -/
abbrev Hd := FuncId → List AV → Hp → (R : Type) → (AV → Hp → Option R) → Option R
inductive AVs (c : Cx) : List AV → List Value → Prop
  | nil : AVs c [] []
  | cons {a : AV} {v : Value} {as : List AV} {vs : List Value} : AVL c a [v] → AVs c as vs → AVs c (a :: as) (v :: vs)
def HOk (E : Env) (P : Program) (H : Hd) : Prop :=
  ∀ (f : FuncId) (avs : List AV) (h : Hp) (R : Type) (K : AV → Hp → Option R) (r : R), H f avs h R K = some r →
  ∀ (c : Cx) (vs : List Value) (Q : Value → World → Prop), c.P = P → c.Ok E → c.objs = h.objs → AVs c avs vs →
    (∀ av h' c' v, K av h' = some r → c'.objs = h'.objs → c'.Ok E → c.Evol c' → h.Agr h' → AVL c' av [v] → Q v c'.w) →
    (callFunc f vs.toArray).run P c.w = .ok (.enter f vs.toArray) c.w ∧ Calls P f vs.toArray c.w (fun | .returned v, w' => Q v w' | _, _ => False)

def unPr : AV → List AV
  | .pr a b => a :: unPr b
  | _ => []
def isPr : AV → Bool
  | .pr _ b => isPr b
  | .un => true
  | _ => false
theorem unPr_ok {c : Cx} : ∀ {a : AV} {vs : List Value}, isPr a = true → AVL c a vs → AVs c (unPr a) vs := by
  intro a
  induction a with
  | pr a b _ ih => intro vs h hv; obtain ⟨v, r, rfl, h1, h2⟩ := hv; exact .cons h1 (ih h h2)
  | un => intro vs _ hv; have hv : vs = [] := hv; subst hv; exact .nil
  | _ => intro vs h; simp [isPr] at h
theorem AVs.append {c : Cx} {a b : List AV} {u v : List Value} (h : AVs c a u) (k : AVs c b v) : AVs c (a ++ b) (u ++ v) := by
  induction h with
  | nil => exact k
  | cons h1 _ ih => exact .cons h1 ih
theorem AVs.map {c : Cx} {ev : Operand → AV} {ρ : Operand → Value} (h : ∀ x, AVL c (ev x) [ρ x]) : ∀ l : List Operand, AVs c (l.map ev) (l.map ρ)
  | [] => .nil
  | x :: l => .cons (h x) (AVs.map h l)
/-- One operation. -/
def opK (E : Env) (H : Hd) (st : St) (o : Oper) (R : Type) (K : AV → Hp → Option R) : Option R :=
  match o.op with
  | .call ⟨.value f, args, _⟩ => (match evO E st.tm f with
    | .fn id k => if isPr k then H id (args.toList.map (evO E st.tm) ++ unPr k) st.hp R K else none
    | _ => none)
  | op => match opV E st.hp st.hp.objs.length (evO E st.tm) o.type op with
    | some (g, av, h') => if g = true then K av h' else none
    | none => none
theorem opK_ok {E : Env} {P : Program} {H : Hd} (hE : E.Ok P) (hH : HOk E P H) {st : St} {o : Oper} {R : Type} {K : AV → Hp → Option R} {r : R} (hk : opK E H st o R K = some r)
    {c : Cx} {a : Act} (hP : c.P = P) (hs : Sm E c st a) {next : Act → World → Prop} {Q : Exit → Act → World → Prop}
    (hn : ∀ av h' c' v, K av h' = some r → c'.objs = h'.objs → c'.Ok E → c.Evol c' → st.hp.Agr h' → AVL c' av [v] → next (a.put o.dst v) c'.w) : o.wp P a c.w next Q := by
  unfold opK at hk
  split at hk
  · rename_i f args ts hop
    have hf := evO_ok hs f
    split at hk
    · rename_i id k hev
      rw [hev] at hf
      obtain ⟨cs, hfv, hcap⟩ := hf
      have hfv : a.eval f = .func (.func id) #[] cs.toArray := by simpa using hfv
      split at hk
      · rename_i hpr
        obtain ⟨h1, h2⟩ := hH id _ _ R K r hk c (args.toList.map a.eval ++ cs) (fun v w' => next (a.put o.dst v) w') hP hs.ok hs.objs ((AVs.map (evO_ok hs) _).append (unPr_ok hpr hcap)) hn
        unfold Oper.wp
        have hrun : (execOp a.eval o).run P c.w = (callFunc id (args.toList.map a.eval ++ cs).toArray).run P c.w := by
          have : (#[] ++ args.map a.eval) ++ cs.toArray = (args.toList.map a.eval ++ cs).toArray := by
            apply Array.ext'; simp
          rw [← this]
          simp [execOp, hop, resolve, hfv, Deferred.ofValue, invoke]
        rw [hrun, h1]
        refine h2.mono fun e w' he => ?_
        cases e with
        | returned v => exact he
        | panicked ch => exact he.elim
        | outgrown => exact he.elim
      · cases hk
    · cases hk
  · rename_i op hop
    split at hk
    · rename_i g av h' hv
      split at hk
      · rename_i hg
        have hv' : opV E st.hp st.hp.objs.length (evO E st.tm) o.type o.op = some (g, av, h') := hv
        subst hP
        obtain ⟨c', n, v, h1, h2, h3, h4, h5, h6, h7⟩ := opV_ok (o := o) (ρ := a.eval) hE hs.ok hs.objs (evO_ok hs) hv' hg
        have := hn av h' c' v hk h3 h4 h5 h6 h7
        unfold Oper.wp
        rw [h1]
        cases n <;> simp [nextV] at h2
        · subst h2; exact this
        · subst h2; exact this
      · cases hk
    · cases hk

inductive Gst where
  | yes | no | bad
  | split (d : Nat) (b : Bool) (want : Bool)
/-- Is the operation wanted? -/
def gst (ops : Array Oper) (tm : List AV) (o : Oper) : Gst :=
  match o.guard with
  | none => .yes
  | some (j, want) => match (ops.toList[j]?).bind (·.dst) with
    | none => .bad
    | some d => match tm.getD d .top with
      | .kb b => if b = want then .yes else .no
      | .v .bool b => .split d b want
      | .tup .un => .no
      | _ => .bad
theorem yielded_of {ops : Array Oper} {a : Act} {j d : Nat} {b : Bool} (h : (ops.toList[j]?).bind (·.dst) = some d) (hv : a.tmps.getD d undef = .bool b) : yielded ops a.tmps j = some b := by
  unfold yielded
  have h' : (ops[j]?).bind (·.dst) = some d := by rw [← Array.getElem?_toList]; exact h
  rw [h']
  have : a.tmps[d]? = some (.bool b) := by
    rw [Array.getD_eq_getD_getElem?] at hv
    cases hx : a.tmps[d]? with
    | none => rw [hx] at hv; simp [undef] at hv
    | some y => rw [hx] at hv; simp at hv; rw [hv]
  simp [this]
theorem yielded_un {ops : Array Oper} {a : Act} {j d : Nat} (h : (ops.toList[j]?).bind (·.dst) = some d) (hv : a.tmps.getD d undef = undef) : yielded ops a.tmps j = none := by
  unfold yielded
  have h' : (ops[j]?).bind (·.dst) = some d := by rw [← Array.getElem?_toList]; exact h
  rw [h']
  rw [Array.getD_eq_getD_getElem?] at hv
  cases hx : a.tmps[d]? with
  | none => simp [hx]
  | some y => rw [hx] at hv; simp at hv; subst hv; simp [hx, undef]
/-- A region's operations, in the order given. -/
def opsS (E : Env) (H : Hd) (ops : Array Oper) : List Nat → St → (R : Type) → (St → Option R) → Option R
  | [], st, _, K => K st
  | i :: l, st, R, K => match ops.toList[i]? with
    | none => opsS E H ops l st R K
    | some o => match gst ops st.tm o with
      | .yes => opK E H st o R fun av h' => opsS E H ops l (st.put o.dst av h') R K
      | .no => opsS E H ops l (st.put o.dst (.tup .un) st.hp) R K
      | .bad => none
      | .split d b want => cond b
        (if true = want then opK E H (st.know d true) o R fun av h' => opsS E H ops l ((st.know d true).put o.dst av h') R K else opsS E H ops l ((st.know d true).put o.dst (.tup .un) st.hp) R K)
        (if false = want then opK E H (st.know d false) o R fun av h' => opsS E H ops l ((st.know d false).put o.dst av h') R K else opsS E H ops l ((st.know d false).put o.dst (.tup .un) st.hp) R K)
theorem opsS_ok {E : Env} {P : Program} {H : Hd} (hE : E.Ok P) (hH : HOk E P H) {ops : Array Oper} {R : Type} {K : St → Option R} {r : R} {Q : Exit → Act → World → Prop} :
    ∀ {l : List Nat} {st : St}, opsS E H ops l st R K = some r → ∀ {c : Cx} {a : Act}, c.P = P → Sm E c st a →
      (∀ st' c' a', K st' = some r → Sm E c' st' a' → Gone c st a c' st' a' → Q .normal a' c'.w) → wpOps P ops Q l a c.w := by
  intro l
  induction l with
  | nil => intro st hk c a hP hs hn; exact hn st c a hk hs (Gone.refl _ _ _)
  | cons i l ih =>
    intro st hk c a hP hs hn
    unfold opsS at hk
    unfold wpOps
    cases ho : ops[i]? with
    | none =>
      rw [← Array.getElem?_toList] at ho
      rw [ho] at hk
      exact ih hk hP hs hn
    | some o =>
      rw [← Array.getElem?_toList] at ho
      rw [ho] at hk
      simp only at hk ⊢
      -- the two ways to go on
      have yes : ∀ {s1 : St}, Sm E c s1 a → Gone c st a c s1 a → opK E H s1 o R (fun av h' => opsS E H ops l (s1.put o.dst av h') R K) = some r → Region.wanted o (yielded ops a.tmps) = true →
          (if Region.wanted o (yielded ops a.tmps) = true then o.wp P a c.w (wpOps P ops Q l) Q ∨ (o.asks P a c.w ∧ LetsOut Q) else wpOps P ops Q l (a.put o.dst undef) c.w) := by
        intro s1 hs1 hg1 hk1 hw
        rw [if_pos hw]
        refine .inl (opK_ok hE hH hk1 hP hs1 fun av h' c' v k1 k2 k3 k4 k5 k6 => ?_)
        obtain ⟨m1, m2⟩ := hs1.put (dst := o.dst) k3 k2 k4 k5 k6
        exact ih k1 (k4.P.trans hP) m1 fun st' c'' a' q1 q2 q3 => hn st' c'' a' q1 q2 (hg1.trans (m2.trans q3))
      have no : ∀ {s1 : St}, Sm E c s1 a → Gone c st a c s1 a → opsS E H ops l (s1.put o.dst (.tup .un) s1.hp) R K = some r → Region.wanted o (yielded ops a.tmps) = false →
          (if Region.wanted o (yielded ops a.tmps) = true then o.wp P a c.w (wpOps P ops Q l) Q ∨ (o.asks P a c.w ∧ LetsOut Q) else wpOps P ops Q l (a.put o.dst undef) c.w) := by
        intro s1 hs1 hg1 hk1 hw
        rw [if_neg (by rw [hw]; simp)]
        obtain ⟨m1, m2⟩ := hs1.put (dst := o.dst) (av := .tup .un) (v := undef) hs1.ok hs1.objs (Cx.Evol.refl c) (Hp.Agr.refl _) ⟨[], rfl, rfl⟩
        exact ih hk1 hP m1 fun st' c'' a' q1 q2 q3 => hn st' c'' a' q1 q2 (hg1.trans (m2.trans q3))
      unfold gst at hk
      cases hgd : o.guard with
      | none =>
        rw [hgd] at hk
        exact yes hs (Gone.refl _ _ _) hk (by simp [Region.wanted, hgd])
      | some jw =>
        obtain ⟨j, want⟩ := jw
        rw [hgd] at hk
        simp only at hk
        cases hd : (ops.toList[j]?).bind (·.dst) with
        | none => rw [hd] at hk; cases hk
        | some d =>
          rw [hd] at hk
          simp only at hk
          have hav := hs.av d
          have wnt : ∀ b, a.tmps.getD d undef = .bool b → Region.wanted o (yielded ops a.tmps) = (b == want) := by
            intro b hb
            simp [Region.wanted, hgd, yielded_of hd hb]
          cases hx : st.tm.getD d .top with
          | kb b =>
            rw [hx] at hk hav
            have hb : a.tmps.getD d undef = .bool b := by
              have : [a.tmps.getD d undef] = [Value.bool b] := hav
              simpa using this
            simp only at hk
            by_cases e : b = want
            · rw [if_pos e] at hk
              exact yes hs (Gone.refl _ _ _) hk (by rw [wnt b hb]; simp [e])
            · rw [if_neg e] at hk
              exact no hs (Gone.refl _ _ _) hk (by rw [wnt b hb]; simp [e])
          | v t b =>
            rw [hx] at hk hav
            cases t with
            | bool =>
              simp only at hk
              obtain ⟨u, hu, hb⟩ := hav
              have hb := VRep_bool hb
              have hb : a.tmps.getD d undef = .bool b := by cases hu; exact hb
              obtain ⟨m1, m2⟩ := hs.know hb
              cases b with
              | true =>
                simp only [cond_true] at hk
                by_cases e : true = want
                · rw [if_pos e] at hk
                  exact yes m1 m2 hk (by rw [wnt _ hb]; simp [e])
                · rw [if_neg e] at hk
                  exact no m1 m2 hk (by rw [wnt _ hb]; simpa using e)
              | false =>
                simp only [cond_false] at hk
                by_cases e : false = want
                · rw [if_pos e] at hk
                  exact yes m1 m2 hk (by rw [wnt _ hb]; simp [e])
                · rw [if_neg e] at hk
                  exact no m1 m2 hk (by rw [wnt _ hb]; simpa using e)
            | _ => cases hk
          | tup q =>
            rw [hx] at hk hav
            cases q with
            | un =>
              obtain ⟨cs, hu, hcs⟩ := hav
              have hcs : cs = [] := hcs
              subst hcs
              have hb : a.tmps.getD d undef = undef := by simpa [undef] using hu
              exact no hs (Gone.refl _ _ _) hk (by simp [Region.wanted, hgd, yielded_un hd hb])
            | _ => cases hk
          | _ => rw [hx] at hk; cases hk
end Go.Sy
namespace Go.Sy
open Go Go.RowKit Go.Lib

/-- What is handed on where paths meet: plain data, or a row of the call's own. -/
inductive BPk where
  | dat (t : Ty)
  | row (e : TypeId) (t : Ty)
  | nd (p q : BPk)
inductive Loc where
  | slot (i : Nat)
  | box (o : Nat)
def BPk.ty : BPk → Ty
  | .dat t => t
  | .row _ t => .sl t
  | .nd p q => .cons p.ty q.ty
def BPk.n : BPk → Nat
  | .dat _ => 0
  | .row .. => 1
  | .nd p q => p.n + q.n
def itTy : List (Loc × BPk) → Ty
  | [] => .nil
  | (_, b) :: r => .cons b.ty (itTy r)
structure Pk where
  it : List (Loc × BPk)
  W : List Nat
  kd : List Nat
/-- Plain data, with no row frozen by it. -/
def takeB0 (h : Hp) (t : Ty) (b : BT) : Option (Den t) :=
  match takeB h t b with
  | some (x, h') => if Nat.beq h'.dO.length h.dO.length then some x else none
  | none => none
def frzB : BPk → BT → Hp → Option Hp
  | .dat t, b, h => (takeB h t b).map (·.2)
  | .row .., _, h => some h
  | .nd p q, .nd x y, h => (match frzB p x h with | some h1 => frzB q y h1 | none => none)
  | .nd .., .lf _, _ => none
def pkB (h : Hp) : (b : BPk) → BT → Option (Den b.ty × List (Option Nat))
  | .dat t, b => (takeB0 h t b).map fun x => (x, [])
  | .row e t, .lf (.rsl o) => (match h.get o with
    | .row e' t' l true => if Nat.beq e e' then (if hb : Ty.beq t' t = true then some (castD (a := .sl t') (b := .sl t) hb l, [some o]) else none) else none
    | _ => none)
  | .row _ _, .lf .nils => some ([], [none])
  | .nd p q, .nd x y => (match pkB h p x, pkB h q y with
    | some (a, m), some (b, k) => some ((a, b), m ++ k)
    | _, _ => none)
  | _, _ => none
def cont (tm : List AV) (h : Hp) (b : BPk) : Loc → Option BT
  | .slot i => some (.lf (tm.getD i .top))
  | .box o => match h.get o with
    | .box t bt => if Ty.beq t b.ty then some bt else none
    | _ => none
def frzI (tm : List AV) : List (Loc × BPk) → Hp → Option Hp
  | [], h => some h
  | (l, b) :: r, h => match cont tm h b l with
    | some bt => (match frzB b bt h with | some h1 => frzI tm r h1 | none => none)
    | none => none
def pkI (tm : List AV) (h : Hp) : (it : List (Loc × BPk)) → Option (Den (itTy it) × List (Option Nat))
  | [] => some ((), [])
  | (l, b) :: r => match cont tm h b l with
    | some bt => (match pkB h b bt, pkI tm h r with
      | some (x, m), some (y, k) => some ((x, y), m ++ k)
      | _, _ => none)
    | none => none
def isBox (it : List (Loc × BPk)) (o : Nat) : Bool := it.any fun x => match x.1 with | .box p => Nat.beq o p | _ => false
def movOk (kd : List Nat) (n0 : Nat) : List (Option Nat) → Bool
  | [] => true
  | none :: r => movOk kd n0 r
  | some o :: r => (Nat.ble n0 o || kd.contains o) && !r.contains (some o) && movOk kd n0 r
def packI (X : Pk) (n0 : Nat) (s : St) (h1 : Hp) : Option (Den (itTy X.it)) :=
  match pkI s.tm h1 X.it with
  | some (x, m) => if movOk X.kd n0 m then some x else none
  | none => none
def pack (X : Pk) (n0 : Nat) (s : St) : Option (Den (itTy X.it)) :=
  match frzI s.tm X.it s.hp with
  | some h1 => if X.kd.all (fun o => !(s.hp.get o).isHid) && s.dT.all (fun i => X.W.contains i) && h1.dO.all (fun o => Nat.ble n0 o || X.kd.contains o || isBox X.it o) then packI X n0 s h1 else none
  | none => none
def upB (n : Nat) : (b : BPk) → Den b.ty → BT
  | .dat t, x => .lf (.v t x)
  | .row _ _, _ => .lf (.rsl n)
  | .nd p q, x => .nd (upB n p x.1) (upB (n + p.n) q x.2)
def upR : (b : BPk) → Den b.ty → List Ob
  | .dat _, _ => []
  | .row e t, x => [.row e t x true]
  | .nd p q, x => upR p x.1 ++ upR q x.2
def BT.leaf : BT → AV
  | .lf a => a
  | _ => .top
def fSlot : (it : List (Loc × BPk)) → Den (itTy it) → Nat → Nat → Option AV
  | [], _, _, _ => none
  | (.slot j, b) :: r, x, n, i => if Nat.beq i j then some (upB n b x.1).leaf else fSlot r x.2 (n + b.n) i
  | (.box _, b) :: r, x, n, i => fSlot r x.2 (n + b.n) i
def fBox : (it : List (Loc × BPk)) → Den (itTy it) → Nat → Nat → Option Ob
  | [], _, _, _ => none
  | (.slot _, b) :: r, x, n, o => fBox r x.2 (n + b.n) o
  | (.box p, b) :: r, x, n, o => if Nat.beq o p then some (.box b.ty (upB n b x.1)) else fBox r x.2 (n + b.n) o
def fRows : (it : List (Loc × BPk)) → Den (itTy it) → List Ob
  | [], _ => []
  | (_, b) :: r, x => upR b x.1 ++ fRows r x.2
def boxesOf : List (Loc × BPk) → List Nat
  | [] => []
  | (.box o, _) :: r => o :: boxesOf r
  | (.slot _, _) :: r => boxesOf r
def upTm (X : Pk) (n0 : Nat) (x : Den (itTy X.it)) : List AV → Nat → List AV
  | [], _ => []
  | a :: r, i => (match fSlot X.it x n0 i with | some av => av | none => if X.W.contains i then .top else a) :: upTm X n0 x r (i + 1)
def upOb (X : Pk) (n0 : Nat) (x : Den (itTy X.it)) : List Ob → Nat → List Ob
  | [], _ => []
  | a :: r, o => (if X.kd.contains o then .dead else match fBox X.it x n0 o with | some b => b | none => a) :: upOb X n0 x r (o + 1)
/-- The state that the handed data stand for. -/
def unpack (X : Pk) (st : St) (x : Den (itTy X.it)) : St :=
  ⟨upTm X st.hp.objs.length x st.tm 0,
   ⟨upOb X st.hp.objs.length x st.hp.objs 0 ++ fRows X.it x, X.kd ++ (boxesOf X.it ++ (List.range' st.hp.objs.length (fRows X.it x).length ++ st.hp.dO))⟩,
   X.W ++ st.dT⟩
def St.clean (st : St) : St := ⟨st.tm, ⟨st.hp.objs, []⟩, []⟩
def St.log (st s : St) : St := ⟨s.tm, ⟨s.hp.objs, s.hp.dO ++ st.hp.dO⟩, s.dT ++ st.dT⟩

theorem upTm_get {X : Pk} {n0 : Nat} {x : Den (itTy X.it)} : ∀ {l : List AV} {k i : Nat}, (upTm X n0 x l k).getD i .top =
    if i < l.length then (match fSlot X.it x n0 (k + i) with | some av => av | none => if X.W.contains (k + i) then .top else l.getD i .top) else .top := by
  intro l
  induction l with
  | nil => intro k i; simp [upTm]
  | cons a r ih =>
    intro k i
    cases i with
    | zero => simp [upTm]
    | succ i =>
      have e : k + (i + 1) = k + 1 + i := by omega
      simp only [upTm, List.getD_cons_succ, List.length_cons, Nat.add_lt_add_iff_right]
      rw [ih, e]
theorem upTm_len {X : Pk} {n0 : Nat} {x : Den (itTy X.it)} : ∀ {l : List AV} {k : Nat}, (upTm X n0 x l k).length = l.length := by
  intro l
  induction l with
  | nil => intro k; rfl
  | cons a r ih => intro k; simp [upTm, ih]
theorem upOb_get {X : Pk} {n0 : Nat} {x : Den (itTy X.it)} : ∀ {l : List Ob} {k i : Nat}, i < l.length → (upOb X n0 x l k).getD i .free =
    if X.kd.contains (k + i) then .dead else match fBox X.it x n0 (k + i) with | some b => b | none => l.getD i .free := by
  intro l
  induction l with
  | nil => intro k i h; simp at h
  | cons a r ih =>
    intro k i h
    cases i with
    | zero => simp [upOb]
    | succ i =>
      have e : k + (i + 1) = k + 1 + i := by omega
      simp only [upOb, List.getD_cons_succ]
      rw [ih (by simpa using h), e]
theorem upOb_len {X : Pk} {n0 : Nat} {x : Den (itTy X.it)} : ∀ {l : List Ob} {k : Nat}, (upOb X n0 x l k).length = l.length := by
  intro l
  induction l with
  | nil => intro k; rfl
  | cons a r ih => intro k; simp [upOb, ih]
theorem take0_dO {h h' : Hp} {t : Ty} {av : AV} {x : Den t} (ht : take0 h t av = some (x, h')) : h.dO.length ≤ h'.dO.length ∧ (h'.dO.length = h.dO.length → h' = h) := by
  cases av with
  | nils =>
    cases t <;> simp [take0] at ht
    obtain ⟨_, rfl⟩ := ht
    exact ⟨Nat.le_refl _, fun _ => rfl⟩
  | rsl o =>
    cases t <;> simp only [take0, reduceCtorEq] at ht
    cases he : h.get o <;> rw [he] at ht <;> simp only [reduceCtorEq] at ht
    split at ht
    · simp only [Option.some.injEq, Prod.mk.injEq] at ht
      obtain ⟨_, rfl⟩ := ht
      split
      · simp [Hp.set]
      · exact ⟨Nat.le_refl _, fun _ => rfl⟩
    · cases ht
  | _ =>
    simp only [take0, Option.map_eq_some_iff] at ht
    obtain ⟨y, _, he⟩ := ht
    cases he; exact ⟨Nat.le_refl _, fun _ => rfl⟩
theorem takeC_dO : ∀ {av : AV} {h h' : Hp} {t : Ty} {g : GV}, takeC h t av = some (g, h') → h.dO.length ≤ h'.dO.length ∧ (h'.dO.length = h.dO.length → h' = h) := by
  intro av
  induction av with
  | cl u x =>
    intro h h' t g ht
    have ht : some ((⟨u, x⟩ : GV), h) = some (g, h') := by cases t <;> exact ht
    cases ht; exact ⟨Nat.le_refl _, fun _ => rfl⟩
  | cat a b iha ihb =>
    intro h h' t g ht
    cases t with
    | cons s t =>
      simp only [takeC] at ht
      split at ht
      · rename_i y h1 hy
        split at ht
        · rename_i z h2 hz
          cases ht
          obtain ⟨a1, a2⟩ := iha hy
          obtain ⟨b1, b2⟩ := ihb hz
          refine ⟨by omega, fun e => ?_⟩
          have e1 := b2 (by omega)
          rw [e1]; exact a2 (by rw [← e1]; omega)
        · cases ht
      · cases ht
    | _ => simp [takeC] at ht
  | rsl o =>
    intro h h' t g ht
    have ht : (if t.isAgg = false then ((take0 h t (.rsl o)).map fun r => ((⟨t, r.1⟩, r.2) : GV × Hp)) else none) = some (g, h') := by cases t <;> exact ht
    split at ht
    · obtain ⟨r, h1, h2⟩ := Option.map_eq_some_iff.1 ht
      cases h2; exact take0_dO (x := r.1) (h' := r.2) h1
    · cases ht
  | nils =>
    intro h h' t g ht
    have ht : (if t.isAgg = false then ((take0 h t .nils).map fun r => ((⟨t, r.1⟩, r.2) : GV × Hp)) else none) = some (g, h') := by cases t <;> exact ht
    split at ht
    · obtain ⟨r, h1, h2⟩ := Option.map_eq_some_iff.1 ht
      cases h2; exact take0_dO (x := r.1) (h' := r.2) h1
    · cases ht
  | _ => intro h h' t g ht; cases t <;> simp [takeC] at ht
theorem take_dO {h h' : Hp} {t : Ty} {av : AV} {x : Den t} (ht : take h t av = some (x, h')) : h.dO.length ≤ h'.dO.length ∧ (h'.dO.length = h.dO.length → h' = h) := by
  cases av with
  | ag u a =>
    simp only [take] at ht
    split at ht
    · split at ht
      · rename_i g h1 hg
        split at ht
        · cases ht; exact takeC_dO hg
        · cases ht
      · cases ht
    · cases ht
  | _ => rw [take_eq (by intro _ _ e; cases e)] at ht; exact take0_dO ht
theorem takeB_dO : ∀ {b : BT} {h h' : Hp} {t : Ty} {x : Den t}, takeB h t b = some (x, h') → h.dO.length ≤ h'.dO.length ∧ (h'.dO.length = h.dO.length → h' = h) := by
  intro b
  induction b with
  | lf av => intro h h' t x ht; exact take_dO (t := t) (x := x) (av := av) (by cases t <;> exact ht)
  | nd p q ihp ihq =>
    intro h h' t x ht
    cases t <;> simp only [takeB, reduceCtorEq] at ht
    split at ht
    · rename_i h1
      split at ht
      · rename_i h2
        cases ht
        obtain ⟨a1, a2⟩ := ihp h1
        obtain ⟨b1, b2⟩ := ihq h2
        refine ⟨Nat.le_trans a1 b1, fun e => ?_⟩
        have e1 := b2 (by omega)
        subst e1
        exact a2 (by omega)
      · cases ht
    · cases ht
theorem takeB0_ok {h : Hp} {t : Ty} {b : BT} {x : Den t} (hx : takeB0 h t b = some x) : takeB h t b = some (x, h) := by
  unfold takeB0 at hx
  split at hx
  · rename_i y h' hy
    split at hx
    · rename_i e
      cases hx
      rw [(takeB_dO hy).2 (Nat.eq_of_beq_eq_true e)] at hy
      exact hy
    · cases hx
  · cases hx
end Go.Sy
