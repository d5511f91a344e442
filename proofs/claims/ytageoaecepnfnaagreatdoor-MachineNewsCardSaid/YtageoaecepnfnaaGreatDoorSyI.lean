/- A symbolic evaluator of the model's code, shown sound once for every program (part 9 of 9): what it computes of a function is what the function does. -/
import Derived.Test.YtageoaecepnfnaaGreatDoorSyH
import Derived.ProofKit
import Derived.Below
import Derived.Lib.LaidTab
import Derived.Lib.ItoaNum
import Derived.Sort.Grow
import Derived.Carry
import Derived.ChangeSame
import Derived.Handed
namespace Go.Sy
open Go Go.RowKit Go.Lib

/-- A region drawn: its head in any order, and the tail, that all else goes ahead of, in its own order (calls there may go by the callee's code). -/
noncomputable def regT (E2 E : Env) (H : Hd) : Dr := fun ops st R K =>
  let k := tk (mkL ops.toList []) ops.size
  if Nat.beq k ops.size = true then regD E2 ops st R K
  else if (topoB ops.toList 0 && gdB k ops.toList) = true then regD E2 (ops.toList.take k).toArray st R (fun st' => opsS E H ops (List.range' k (ops.size - k)) st' R K) else none
theorem regT_ok {E2 E : Env} {P : Program} {H : Hd} (hm : P.follows .mixedOrders = true) (hE : E.Ok P) (hE2 : E2.Ok P) (hC2 : ∀ f k, look E2.con f = some k → Sat P E2.gl f k) (hg : E2.gl = E.gl) (hH : HOk E P H) : DOk E P (regT E2 E H) := by
  intro ops st R K r hk c a id Q hP hs hn
  unfold regT at hk
  simp only at hk
  split at hk
  · exact DOk.env (regD_ok hm hE2 hC2) hg ops st R K r hk c a id Q hP hs hn
  · split at hk
    · rename_i hc
      rw [Bool.and_eq_true] at hc
      have he : (ops.toList.take (tk (mkL ops.toList []) ops.size)).toArray = ops.extract 0 (tk (mkL ops.toList []) ops.size) := by
        apply Array.ext'; simp
      rw [he] at hk
      have hsz : (ops.extract 0 (tk (mkL ops.toList []) ops.size)).size = tk (mkL ops.toList []) ops.size := by
        have := tk_le (M := mkL ops.toList []) (n := ops.size)
        simp; omega
      have h1 := regD_any hE2 hC2 hk hP (hs.env hg) (Q := Exit.then (wpOps P ops Q (List.range' (tk (mkL ops.toList []) ops.size) (ops.size - tk (mkL ops.toList []) ops.size))) Q)
        (fun st' c' a' k1 k2 k3 => opsS_ok hE hH k1 (k3.evol.P.trans hP) (k2.env hg.symm) fun st'' c'' a'' q1 q2 q3 => hn st'' c'' a'' q1 q2 (k3.trans q3))
      rw [hsz] at h1
      exact wp_region_any hm (wpAny_tail tk_le (fun i o ho e he hb => by
        have := topoB_ok hc.1 i o (by rw [Array.getElem?_toList]; exact ho) e he hb
        omega) hc.2 (fun j h2 h3 => tk_full h2 h3) h1)
    · cases hk
end Go.Sy
namespace Go.Sy
open Go Go.RowKit Go.Lib
/-- The same tables with other contracts, for regions drawn. -/
abbrev Env.drw (E : Env) (l : List (FuncId × Con)) : Env := ⟨E.ty, E.sl, E.eq, E.gl, l, E.fns, E.cln⟩
/-- What a function computes: calls by contract where there is one, else by the callee's own code, n deep. -/
noncomputable def runF (E : Env) (cd : List (FuncId × Con)) (n : Nat) (an : FuncId → Nat → Ann) (f : FuncId) (fn : Func) (ps rs : Ty) : Den ps → Option (Den rs) :=
  symF E (inl E (regT (E.drw cd) E) an n) (regT (E.drw cd) E (inl E (regT (E.drw cd) E) an n)) (an f 0) fn ps rs
theorem runF_ok {E : Env} {P : Program} (hm : P.follows .mixedOrders = true) (hE : E.Ok P) (hC : ∀ f k, look E.con f = some k → Sat P E.gl f k) {cd : List (FuncId × Con)} (hC2 : ∀ f k, look cd f = some k → Sat P E.gl f k) {n : Nat} {an : FuncId → Nat → Ann} {f : FuncId} {fn : Func} {ps rs : Ty}
    (hf : look E.fns f = some fn) : Sat P E.gl f ⟨ps, rs, false, runF E cd n an f fn ps rs⟩ :=
  have hD : ∀ H, HOk E P H → DOk E P (regT (E.drw cd) E H) := fun _H hH => regT_ok hm hE ⟨hE.ty, hE.sl, hE.eq, hE.fns, hE.cln⟩ hC2 rfl hH
  have hI := inl_ok (an := an) hE hC hD n
  symF_ok hE hI (hD _ hI) hf
/-- slices.Clone as a function of data. -/
noncomputable def cloneF (E : Env) (t : TypeId) (a : Ty) (x : Den (.cons a .nil)) : Option (Den (.cons a .nil)) :=
  cloneK E t (argAV (.cons a .nil) x) ⟨[], []⟩ (Den (.cons a .nil)) fun av h' => (takeA h' (.cons a .nil) [av]).map (fun (p : Den (.cons a .nil) × Hp) => p.1)
theorem clone_sat {E : Env} {P : Program} (hE : E.Ok P) {f : FuncId} {t : TypeId} {a : Ty} (hf : look E.cln f = some t) : Sat P E.gl f ⟨.cons a .nil, .cons a .nil, false, cloneF E t a⟩ := by
  intro w ok x vs r hlow hgl hargs hF
  let c0 : Cx := ⟨P, [], fun _ => undef, w, ok, w.heap.size⟩
  have hok : ∀ b, ok b → c0.okb b := fun b hb => ⟨.inl hb, hlow b hb, fun o hm => by cases hm⟩
  have h0 : c0.Ok E := by
    refine ⟨Nat.le_refl _, hlow, fun o => trivial, (fun o o' _ hm => by cases hm), (fun o b hm => by cases hm), (fun o e t l hm => by cases hm), fun g x hg => ?_⟩
    obtain ⟨ds, g1, g2, g3⟩ := hgl g x hg
    exact ⟨ds, g1, g2.mono fun b hb => ⟨rfl, hok b hb⟩, hok g g3⟩
  have ha : AVs c0 (argAV (.cons a .nil) x) vs := argAV_ok (c := c0) (ArgR.mono (fun b hb => ⟨rfl, hok b hb⟩) hargs)
  have hF : cloneK E t (argAV (.cons a .nil) x) ⟨[], []⟩ (Den (.cons a .nil)) (fun av h' => (takeA h' (.cons a .nil) [av]).map (fun (p : Den (.cons a .nil) × Hp) => p.1)) = some r := hF
  have := clone_ok hE (hE.cln f t hf) (avs := argAV (.cons a .nil) x) (h := ⟨[], []⟩) (R := Den (.cons a .nil)) (K := fun av h' => (takeA h' (.cons a .nil) [av]).map (fun (p : Den (.cons a .nil) × Hp) => p.1)) (r := r) (Q := fun v w' => w.heap.size ≤ w'.heap.size ∧ (∀ b, b < w.heap.size → w'.heap[b]? = w.heap[b]?) ∧ w'.os = w.os ∧ w'.tape = w.tape ∧ w'.output = w.output ∧
          ResR w' (fun b => ok b ∨ (w.heap.size ≤ b ∧ b < w'.heap.size)) (.cons a .nil) r v) hF (c := c0) rfl h0 rfl ha (fun av h' c' v q1 q2 q3 q4 q5 q6 => by
      obtain ⟨⟨y, h2⟩, hy, he⟩ := Option.map_eq_some_iff.1 q1
      have he : y = r := he
      subst he
      obtain ⟨p1, p2, p3, p4⟩ := takeA_ok q3 q2 hy (.cons q6 .nil)
      refine ⟨q4.size, fun b hb => (q4.okr b ⟨hb, fun o hm => by cases hm⟩).1, q4.os, q4.tape, q4.output, ?_⟩
      have hr := resR_of (p4.mono (ok' := fun b => ok b ∨ (w.heap.size ≤ b ∧ b < c'.w.heap.size)) fun b hb => ⟨rfl, ?_⟩)
      · exact hr
      · have e0 : c'.ok0 = ok := q4.ok0
        have e1 : c'.base = w.heap.size := q4.base
        have hb1 : c'.ok0 b ∨ c'.base ≤ b := hb.1
        have hb2 : b < c'.w.heap.size := hb.2.1
        rw [e0, e1] at hb1
        rcases hb1 with h3 | h3
        · exact .inl h3
        · exact .inr ⟨h3, hb2⟩)
  refine ⟨this.1, this.2.mono fun e w' he => ?_⟩
  cases e with
  | returned v => exact he
  | panicked ch => exact he.elim
  | outgrown => exact he.elim
end Go.Sy
namespace Go.Sy
open Go Go.RowKit Go.Lib
/-- The tables, checked against the program. -/
def tyChk (P : Program) : List (TypeId × Ty × Nat) → Bool
  | [] => true
  | (t, τ, n) :: r => chk P τ (.inl t) && (match (P.info? t).map (·.bytes) with | some m => Nat.beq m n | none => false) && tyChk P r
def slChk (P : Program) : List (TypeId × TypeId × Nat) → Bool
  | [] => true
  | (t, e, n) :: r => (match slOf P t with | some e' => Nat.beq e' e | none => false) && (match (P.info? e).map (·.bytes) with | some m => Nat.beq m n | none => false) && slChk P r
def eqsChk (P : Program) : List (TypeId × Ty) → Bool
  | [] => true
  | (t, τ) :: r => chk P τ (.inl t) && eqChk P τ (.inl t) && !P.eqGuardType P.depth t && Nat.ble (nst τ) 10000 && τ.isAgg && eqsChk P r
def FnsOk (P : Program) (l : List (FuncId × Func)) : Prop := ∀ f fn, look l f = some fn → P.funcs[f]? = some fn ∧ (fn.name == "runtime.NumGoroutine") = false
theorem FnsOk.nil (P : Program) : FnsOk P [] := fun f fn h => by cases h
theorem FnsOk.cons {P : Program} {f : FuncId} {fn : Func} {l : List (FuncId × Func)} (h1 : P.funcs[f]? = some fn) (h2 : (fn.name == "runtime.NumGoroutine") = false) (h : FnsOk P l) : FnsOk P ((f, fn) :: l) := by
  intro k kn hk
  simp only [look] at hk
  split at hk
  · rename_i e; rw [← Nat.eq_of_beq_eq_true e]; cases hk; exact ⟨h1, h2⟩
  · exact h k kn hk
theorem tyChk_ok {P : Program} : ∀ {l : List (TypeId × Ty × Nat)}, tyChk P l = true → ∀ t τ n, look l t = some (τ, n) → chk P τ (.inl t) = true ∧ (P.info? t).map (·.bytes) = some n := by
  intro l
  induction l with
  | nil => intro _ t τ n h; cases h
  | cons x r ih =>
    obtain ⟨t0, τ0, n0⟩ := x
    intro h t τ n hl
    simp only [tyChk, Bool.and_eq_true] at h
    simp only [look] at hl
    split at hl
    · rename_i e
      have := Nat.eq_of_beq_eq_true e
      subst this
      cases hl
      refine ⟨h.1.1, ?_⟩
      have h2 := h.1.2
      split at h2
      · rename_i m hm; rw [hm, Nat.eq_of_beq_eq_true h2]
      · cases h2
    · exact ih h.2 t τ n hl
theorem slChk_ok {P : Program} : ∀ {l : List (TypeId × TypeId × Nat)}, slChk P l = true → ∀ t e n, look l t = some (e, n) → P.underlying t = some (.slice e) ∧ (P.info? e).map (·.bytes) = some n := by
  intro l
  induction l with
  | nil => intro _ t e n h; cases h
  | cons x r ih =>
    obtain ⟨t0, e0, n0⟩ := x
    intro h t e n hl
    simp only [slChk, Bool.and_eq_true] at h
    simp only [look] at hl
    split at hl
    · rename_i e1
      have := Nat.eq_of_beq_eq_true e1
      subst this
      cases hl
      obtain ⟨⟨h1, h2⟩, _⟩ := h
      constructor
      · split at h1
        · rename_i e' he; rw [← Nat.eq_of_beq_eq_true h1]; exact slOf_eq he
        · cases h1
      · split at h2
        · rename_i m hm; rw [hm, Nat.eq_of_beq_eq_true h2]
        · cases h2
    · exact ih h.2 t e n hl
theorem eqsChk_ok {P : Program} : ∀ {l : List (TypeId × Ty)}, eqsChk P l = true → ∀ t τ, look l t = some τ → chk P τ (.inl t) = true ∧ eqChk P τ (.inl t) = true ∧ P.eqGuardType P.depth t = false ∧ nst τ ≤ 10000 ∧ τ.isAgg = true := by
  intro l
  induction l with
  | nil => intro _ t τ h; cases h
  | cons x r ih =>
    obtain ⟨t0, τ0⟩ := x
    intro h t τ hl
    simp only [eqsChk, Bool.and_eq_true] at h
    simp only [look] at hl
    split at hl
    · rename_i e
      have := Nat.eq_of_beq_eq_true e
      subst this
      cases hl
      obtain ⟨⟨⟨⟨⟨h1, h2⟩, h3⟩, h4⟩, h5⟩, _⟩ := h
      exact ⟨h1, h2, by simpa using h3, Nat.le_of_ble_eq_true h4, h5⟩
    · exact ih h.2 t τ hl
def ClnOk (P : Program) (l : List (FuncId × TypeId)) : Prop := ∀ f t, look l f = some t → CloneFn P f t
theorem ClnOk.nil (P : Program) : ClnOk P [] := fun f t h => by cases h
theorem ClnOk.cons {P : Program} {f : FuncId} {t : TypeId} {l : List (FuncId × TypeId)} (h1 : ∃ fn code, P.funcs[f]? = some fn ∧ (fn.name == "runtime.NumGoroutine") = false ∧ fn.body = some code ∧ CloneCode t code ∧ fn.ntmps = 8 ∧ fn.results.toList = [.tmp 2])
    (h : ClnOk P l) : ClnOk P ((f, t) :: l) := by
  intro k u hk
  simp only [look] at hk
  split at hk
  · rename_i e; rw [← Nat.eq_of_beq_eq_true e]; cases hk; exact ⟨h1⟩
  · exact h k u hk
theorem Env.ok_of {E : Env} {P : Program} (h1 : tyChk P E.ty = true) (h2 : slChk P E.sl = true) (h3 : eqsChk P E.eq = true) (h4 : FnsOk P E.fns) (h5 : ClnOk P E.cln) : E.Ok P :=
  ⟨tyChk_ok h1, slChk_ok h2, eqsChk_ok h3, h4, h5⟩
theorem Env.Ok.con {E : Env} {P : Program} (h : E.Ok P) (l : List (FuncId × Con)) : ({ E with con := l } : Env).Ok P := ⟨h.ty, h.sl, h.eq, h.fns, h.cln⟩
def ConOk (P : Program) (gl : List (Nat × GV)) (l : List (FuncId × Con)) : Prop := ∀ f k, look l f = some k → Sat P gl f k
theorem ConOk.nil (P : Program) (gl : List (Nat × GV)) : ConOk P gl [] := fun f t h => by cases h
theorem ConOk.cons {P : Program} {gl : List (Nat × GV)} {f : FuncId} {k : Con} {l : List (FuncId × Con)} (h1 : Sat P gl f k) (h : ConOk P gl l) : ConOk P gl ((f, k) :: l) := by
  intro g u hk
  simp only [look] at hk
  split at hk
  · rename_i e; rw [← Nat.eq_of_beq_eq_true e]; cases hk; exact h1
  · exact h g u hk
theorem Sat.congr {P : Program} {gl : List (Nat × GV)} {f : FuncId} {ps rs : Ty} {own : Bool} {F G : Den ps → Option (Den rs)} (h : Sat P gl f ⟨ps, rs, own, F⟩) (hx : ∀ x, F x = G x) : Sat P gl f ⟨ps, rs, own, G⟩ := by
  have : F = G := funext hx
  rw [← this]; exact h
/-- Annotations by function and by the number of objects at the call. -/
def anL (l : List (FuncId × Nat × Ann)) (f : FuncId) (n : Nat) : Ann := match l with
  | [] => .nil
  | (g, m, a) :: r => if Nat.beq g f && Nat.beq m n then a else anL r f n
end Go.Sy
namespace Go.Sy
open Go Go.RowKit Go.Lib

/-- Data as an input may hold them. -/
def Wf : (τ : Ty) → Den τ → Prop
  | .int .i64, n => -9223372036854775808 ≤ n ∧ n ≤ 9223372036854775807
  | .str, l => l.length ≤ Go.maxLen
  | .sl t, l => l.length ≤ Go.maxLen ∧ ∀ x ∈ l, Wf t x
  | .arr _ t, l => ∀ x ∈ l, Wf t x
  | .cons a b, x => Wf a x.1 ∧ Wf b x.2
  | _, _ => True
/-- No slice of elements without cells. -/
def solid : Ty → Bool
  | .sl t => Nat.blt 0 t.size && solid t
  | .arr _ t => solid t
  | .cons a b => solid a && solid b
  | .opq => false
  | _ => true
theorem int_wf {k : IntKind} {n : Int} (h : (Lit.int k n).wf = true) : ∃ x : IDen k, toI k x = n ∧ Wf (.int k) x := by
  simp only [Lit.wf, Bool.and_eq_true, decide_eq_true_eq] at h
  refine ⟨ofI k n, ?_, ?_⟩
  · rw [toI_ofI]
    cases k <;> simp only [IntKind.min, IntKind.max, IntKind.signed, IntKind.bits] at h <;> simp [IntKind.wrap, IntKind.signed, IntKind.bits] at h ⊢ <;> first | omega | (split <;> omega)
  · cases k with
    | i64 =>
      simp only [IntKind.min, IntKind.max, IntKind.signed, IntKind.bits] at h
      simp at h
      have e : IntKind.i64.wrap n = n := w64_id h.1 (by omega)
      show (-9223372036854775808 : Int) ≤ IntKind.i64.wrap n ∧ IntKind.i64.wrap n ≤ (9223372036854775807 : Int)
      rw [e]; exact h
    | _ => trivial
theorem cellsOf_chk {P : Program} {τ : Ty} {t : TypeId} (h : chk P τ (.inl t) = true) : P.cellsOf t = τ.size := by
  obtain ⟨i, z, hf⟩ := chk_facts h
  unfold Program.cellsOf
  rw [hf.info]; exact hf.size
theorem pick_den {t : Ty} {p : Nat → Den t → Prop} : ∀ {n : Nat}, (∀ i, i < n → ∃ x, p i x) → ∃ l : List (Den t), l.length = n ∧ ∀ i x, l[i]? = some x → p i x := by
  intro n
  induction n with
  | zero => intro _; exact ⟨[], rfl, fun i x h => by simp at h⟩
  | succ n ih =>
    intro h
    obtain ⟨l, h1, h2⟩ := ih fun i hi => h i (by omega)
    obtain ⟨x, hx⟩ := h n (by omega)
    refine ⟨l ++ [x], by simp [h1], fun i y hy => ?_⟩
    rw [List.getElem?_append] at hy
    split at hy
    · exact h2 i y hy
    · rename_i hi
      have : i = n := by
        rcases Nat.lt_or_ge (i - l.length) 1 with h3 | h3
        · omega
        · rw [List.getElem?_eq_none (by simp; omega)] at hy; cases hy
      subst this
      rw [h1] at hy
      simp at hy
      subst hy; exact hx
theorem cells_spec {w : World} {base : Nat} {a : Addr} {n : Nat} {cs : List Value} (h : w.cells? base a n = some cs) (hn : 0 < n) : a.spot = none ∧ cs.length = n ∧ Cells w a.block a.off cs ∧ a.block < w.heap.size := by
  unfold World.cells? at h
  split at h
  rotate_left
  · cases h
  have hlen := mapM_some_length h
  have hget := mapM_some_get h
  have hlen : cs.length = n := by simpa using hlen
  have h0 := hget 0 0 (by simp [hn])
  have hz : a.add 0 = a := by simp [Addr.add]
  rw [hz] at h0
  have hc : ∃ v, w.cell? a = some v := ⟨cs[0], by rw [h0, List.getElem?_eq_getElem]⟩
  obtain ⟨v, hv⟩ := hc
  have hsp : a.spot = none ∧ a.block < w.heap.size := by
    unfold World.cell? at hv
    split at hv
    · rename_i c e f hb
      split at hv
      · cases hv
      · rename_i hs
        exact ⟨by simpa using hs, (Array.getElem?_eq_some_iff.1 hb).1⟩
    · cases hv
  refine ⟨hsp.1, hlen, fun i v hi => ?_, hsp.2⟩
  have hin : i < n := by rw [← hlen]; exact (List.getElem?_eq_some_iff.1 hi).1
  have := hget i i (by simp [hin])
  rw [hi] at this
  rw [← this]
  congr 1
  obtain ⟨b, o, sp⟩ := a
  have : sp = none := hsp.1
  subst this
  rw [addr_add]
theorem lstr_len (s : ByteArray) : (lstr s).length = s.size := by
  unfold lstr
  rw [List.length_map]; rfl
section
variable {H : Type} {enc : TypeId × Value → H} {P : Program} {w : World} {base : Nat} {spare : Nat → Bool} {held : Bool}
def okAll (w : World) (b : Nat) : Prop := b < w.heap.size
/-- What an input's cells hold, read as plain data. -/
theorem rep_of_trod : ∀ {τ : Ty}, solid τ = true →
    (∀ {t : TypeId} {fuel : Nat} {cs : List Value} {x : DataW H × List MemPlace}, chk P τ (.inl t) = true → DataW.trod enc P w base spare held fuel t cs = some x → ∃ d, RepC w (okAll w) τ d cs ∧ Wf τ d) ∧
    (∀ {off : Nat} {fs : List Field} {fuel : Nat} {cs : List Value} {xs : List (DataW H × List MemPlace)}, chk P τ (.inr (off, fs)) = true → cs.length = off + τ.size →
      (fs.mapM fun f => DataW.trod enc P w base spare held fuel f.type ((cs.drop f.offset).take (P.cellsOf f.type))) = some xs → ∃ d, RepC w (okAll w) τ d (cs.drop off) ∧ Wf τ d) := by
  intro τ
  induction τ with
  | int k =>
    intro _
    refine ⟨fun {t fuel cs x} hc h => ?_, fun {off fs fuel cs xs} hc => by simp [chk] at hc⟩
    have hu := chk_int hc
    cases fuel with
    | zero => simp [DataW.trod] at h
    | succ fuel =>
      unfold DataW.trod at h
      rw [hu] at h
      have key : ∃ n, cs = [.int k n] ∧ (Lit.int k n).wf = true := by
        split at h <;> simp_all
      obtain ⟨n, rfl, hw⟩ := key
      obtain ⟨d, hx, hwf⟩ := int_wf hw
      exact ⟨d, by rw [← hx]; rfl, hwf⟩
  | bool =>
    intro _
    refine ⟨fun {t fuel cs x} hc h => ?_, fun {off fs fuel cs xs} hc => by simp [chk] at hc⟩
    have hu := chk_bool hc
    cases fuel with
    | zero => simp [DataW.trod] at h
    | succ fuel =>
      unfold DataW.trod at h
      rw [hu] at h
      have key : ∃ b, cs = [.bool b] := by
        split at h <;> simp_all
      obtain ⟨b, rfl⟩ := key
      exact ⟨b, rfl, trivial⟩
  | str =>
    intro _
    refine ⟨fun {t fuel cs x} hc h => ?_, fun {off fs fuel cs xs} hc => by simp [chk] at hc⟩
    have hu := chk_str hc
    cases fuel with
    | zero => simp [DataW.trod] at h
    | succ fuel =>
      unfold DataW.trod at h
      rw [hu] at h
      have key : ∃ s : ByteArray, cs = [.string s] ∧ s.size ≤ Go.maxLen := by
        split at h <;> simp_all
      obtain ⟨s, rfl, hs⟩ := key
      exact ⟨lstr s, by show [Value.string s] = [Value.string (bstr (lstr s))]; rw [bstr_lstr], by show (lstr s).length ≤ _; rw [lstr_len]; exact hs⟩
  | sl u ih =>
    intro hs
    simp only [solid, Bool.and_eq_true] at hs
    have hsz : 0 < u.size := by simpa using hs.1
    refine ⟨fun {t fuel cs x} hc h => ?_, fun {off fs fuel cs xs} hc => by simp [chk] at hc⟩
    obtain ⟨e, hu, he⟩ := chk_sl hc
    rcases DataW.trod_slice hu h with ⟨rfl, _⟩ | ⟨a, len, cap, elems, rest, n, _, rfl, _, _, hl, hm, hlen, hel, _⟩
    · exact ⟨[], ⟨none, 0, rfl, Nat.le_refl _, .inl rfl⟩, by simp [Wf]⟩
    · have hce := cellsOf_chk he
      have key : ∀ i, i < len → ∃ d : Den u, (∃ cs', w.cells? base (a.add (i * u.size)) u.size = some cs' ∧ RepC w (okAll w) u d cs') ∧ Wf u d := by
        intro i hi
        have h1 := hel i hi
        rw [List.getElem?_eq_getElem (by omega), hce] at h1
        obtain ⟨cs', h2, h3⟩ := Option.bind_eq_some_iff.1 h1
        obtain ⟨d, h4, h5⟩ := (ih hs.2).1 he h3
        exact ⟨d, ⟨cs', h2, h4⟩, h5⟩
      obtain ⟨l, hll, hl2⟩ := pick_den key
      refine ⟨l, ⟨some a, cap, by rw [hll], by rw [hll]; exact hl, ?_⟩, by rw [hll]; omega, fun x hx => ?_⟩
      · rcases Nat.eq_zero_or_pos len with h0 | h0
        · left; exact List.length_eq_zero_iff.1 (by omega)
        · right
          obtain ⟨d0, ⟨c0, q1, _⟩, _⟩ := key 0 h0
          have hz : a.add (0 * u.size) = a := by simp [Addr.add]
          rw [hz] at q1
          obtain ⟨s1, _, _, s4⟩ := cells_spec q1 hsz
          obtain ⟨b, o, sp⟩ := a
          have s1 : sp = none := s1
          subst s1
          refine ⟨b, o, rfl, s4, fun i x hx => ?_⟩
          obtain ⟨⟨cs', q2, q3⟩, _⟩ := hl2 i x hx
          rw [addr_add] at q2
          exact ⟨cs', (cells_spec q2 hsz).2.2.1, q3⟩
      · obtain ⟨i, hi, rfl⟩ := List.mem_iff_getElem.1 hx
        exact (hl2 i _ (List.getElem?_eq_getElem hi)).2
  | opq => intro hs; cases hs
  | arr n u ih =>
    intro hs
    refine ⟨fun {t fuel cs x} hc h => ?_, fun {off fs fuel cs xs} hc => by simp [chk] at hc⟩
    obtain ⟨e, hu, he⟩ := chk_arr hc
    have hct := cellsOf_chk hc
    have hce := cellsOf_chk he
    cases fuel with
    | zero => simp [DataW.trod] at h
    | succ fuel =>
      unfold DataW.trod at h
      rw [hu] at h
      simp only at h
      split at h
      · rename_i hlen
        obtain ⟨xs, hxs, _⟩ := Option.map_eq_some_iff.1 h
        have hget := mapM_some_get hxs
        have hln := mapM_some_length hxs
        have key : ∀ i, i < n → ∃ d : Den u, RepC w (okAll w) u d ((cs.drop (i * u.size)).take u.size) ∧ Wf u d := by
          intro i hi
          have h1 := hget i i (by simp [hi])
          rw [List.getElem?_eq_getElem (by rw [hln]; simpa using hi), hce] at h1
          exact (ih hs).1 he h1
        obtain ⟨l, hll, hl2⟩ := pick_den key
        refine ⟨l, ⟨hll, by rw [hlen, hct]; rfl, fun i x hx => (hl2 i x hx).1⟩, fun x hx => ?_⟩
        obtain ⟨i, hi, rfl⟩ := List.mem_iff_getElem.1 hx
        exact (hl2 i _ (List.getElem?_eq_getElem hi)).2
      · cases h
  | nil =>
    intro _
    refine ⟨fun {t fuel cs x} hc h => ?_, fun {off fs fuel cs xs} hc hl h => ?_⟩
    · have hct := cellsOf_chk hc
      have hst : stOf P t = some [] := by
        simp only [chk, Bool.and_eq_true] at hc
        have := hc.2
        split at this
        · rename_i l hl; rw [hl]; simp at this; rw [this]
        · cases this
      have hu := stOf_eq hst
      cases fuel with
      | zero => simp [DataW.trod] at h
      | succ fuel =>
        unfold DataW.trod at h
        rw [hu] at h
        simp only at h
        split at h
        · rename_i hlen
          rw [hct] at hlen
          exact ⟨(), List.length_eq_zero_iff.1 hlen, trivial⟩
        · cases h
    · exact ⟨(), by
        show cs.drop off = []
        exact List.drop_eq_nil_of_le (by rw [hl]; exact Nat.le_refl _), trivial⟩
  | cons a b iha ihb =>
    intro hs
    simp only [solid, Bool.and_eq_true] at hs
    -- a field, and those behind it
    have fields : ∀ {off : Nat} {f : Field} {r : List Field} {fuel : Nat} {cs : List Value} {xs : List (DataW H × List MemPlace)}, fOk f off = true → chk P a (.inl f.type) = true → chk P b (.inr (off + a.size, r)) = true →
        cs.length = off + (Ty.cons a b).size → ((f :: r).mapM fun f => DataW.trod enc P w base spare held fuel f.type ((cs.drop f.offset).take (P.cellsOf f.type))) = some xs →
        ∃ d, RepC w (okAll w) (.cons a b) d (cs.drop off) ∧ Wf (.cons a b) d := by
      intro off f r fuel cs xs h1 h2 h3 hl hm
      have hsz : (Ty.cons a b).size = a.size + b.size := rfl
      rw [List.mapM_cons] at hm
      obtain ⟨x, hx, hm⟩ := Option.bind_eq_some_iff.1 hm
      obtain ⟨ys, hys, _⟩ := Option.bind_eq_some_iff.1 hm
      have hoff : f.offset = off := by
        unfold fOk at h1
        simp only [Bool.and_eq_true, beq_iff_eq] at h1
        exact h1.1
      rw [hoff, cellsOf_chk h2] at hx
      obtain ⟨d1, k1, k2⟩ := (iha hs.1).1 h2 hx
      obtain ⟨d2, m1, m2⟩ := (ihb hs.2).2 h3 (by rw [hl, hsz]; omega) hys
      refine ⟨(d1, d2), ⟨_, _, ?_, k1, m1⟩, k2, m2⟩
      rw [← List.drop_drop, List.take_append_drop]
    refine ⟨fun {t fuel cs x} hc h => ?_, fun {off fs fuel cs xs} hc hl h => ?_⟩
    · have hct := cellsOf_chk hc
      simp only [chk, Bool.and_eq_true] at hc
      have h2 := hc.2
      split at h2
      · rename_i f r hst
        simp only [Bool.and_eq_true] at h2
        have hu := stOf_eq hst
        cases fuel with
        | zero => simp [DataW.trod] at h
        | succ fuel =>
          unfold DataW.trod at h
          rw [hu] at h
          simp only at h
          split at h
          · rename_i hlen
            obtain ⟨xs, hxs, _⟩ := Option.map_eq_some_iff.1 h
            have := fields (off := 0) (cs := cs) h2.1.1 h2.1.2 (by rw [Nat.zero_add]; exact h2.2) (by rw [hlen, hct, Nat.zero_add]) hxs
            rw [List.drop_zero] at this; exact this
          · cases h
      · cases h2
    · cases fs with
      | nil => simp [chk] at hc
      | cons f r =>
        simp only [chk, Bool.and_eq_true] at hc
        exact fields hc.1.1 hc.1.2 hc.2 hl h
end
end Go.Sy
namespace Go.Sy
open Go Go.RowKit Go.Lib
section
variable {H : Type} {enc : TypeId × Value → H} {P : Program} {w : World} {base : Nat} {spare : Nat → Bool} {held : Bool}
theorem cells_one {v : Value} (h : ∀ cs, v ≠ .agg cs) : v.cells.toList = [v] := by
  cases v with
  | agg cs => exact absurd rfl (h cs)
  | _ => rfl
/-- What an input's value holds. -/
theorem vrep_of_trod {τ : Ty} {t : TypeId} {v : Value} {d : DataW H} {ps : List MemPlace} {r : Reach} {b0 : Nat} (hs : solid τ = true) (hc : chk P τ (.inl t) = true) (hok : Value.okWide P w r b0 t v)
    (h : DataW.Trod enc P w base spare held t v d ps) : ∃ x, VRep w (okAll w) τ x v ∧ Wf τ x := by
  obtain ⟨fuel, h⟩ := h
  obtain ⟨x, h1, h2⟩ := (rep_of_trod (enc := enc) (P := P) (w := w) (base := base) (spare := spare) (held := held) hs).1 hc h
  refine ⟨x, ?_, h2⟩
  unfold VRep
  unfold Value.okWide at hok
  cases τ with
  | arr n u =>
    obtain ⟨e, hu, _⟩ := chk_arr hc
    rw [hu] at hok
    obtain ⟨cs, rfl, _⟩ := hok
    rw [if_pos (show Ty.isAgg _ = true from rfl)]
    exact ⟨cs.toList, by simp, by simpa [Value.cells] using h1⟩
  | nil =>
    simp only [chk, Bool.and_eq_true] at hc
    have h3 := hc.2
    split at h3
    · rename_i l hl
      rw [stOf_eq hl] at hok
      obtain ⟨cs, rfl, _⟩ := hok
      rw [if_pos (show Ty.isAgg _ = true from rfl)]
      exact ⟨cs.toList, by simp, by simpa [Value.cells] using h1⟩
    · cases h3
  | cons a b =>
    simp only [chk, Bool.and_eq_true] at hc
    have h3 := hc.2
    split at h3
    · rename_i f l hl
      rw [stOf_eq hl] at hok
      obtain ⟨cs, rfl, _⟩ := hok
      rw [if_pos (show Ty.isAgg _ = true from rfl)]
      exact ⟨cs.toList, by simp, by simpa [Value.cells] using h1⟩
    · cases h3
  | opq => cases hs
  | int k =>
    have hu := chk_int hc
    rw [hu] at hok
    rw [if_neg (by simp [Ty.isAgg])]
    rw [cells_one (fun cs e => by subst e; simp [Cell.okWide, Cell.ok, hu] at hok)] at h1
    exact h1
  | bool =>
    have hu := chk_bool hc
    rw [hu] at hok
    rw [if_neg (by simp [Ty.isAgg])]
    rw [cells_one (fun cs e => by subst e; simp [Cell.okWide, Cell.ok, hu] at hok)] at h1
    exact h1
  | str =>
    have hu := chk_str hc
    rw [hu] at hok
    rw [if_neg (by simp [Ty.isAgg])]
    rw [cells_one (fun cs e => by subst e; simp [Cell.okWide, Cell.ok, hu] at hok)] at h1
    exact h1
  | sl u =>
    obtain ⟨e, hu, _⟩ := chk_sl hc
    rw [hu] at hok
    rw [if_neg (by simp [Ty.isAgg])]
    rw [cells_one (fun cs e => by subst e; simp [Cell.okWide, Cell.ok, hu] at hok)] at h1
    exact h1
end
end Go.Sy
namespace Go.Sy
open Go Go.RowKit Go.Lib
def chkP (P : Program) : Ty → List TypeId → Bool
  | .cons a b, t :: ts => chk P a (.inl t) && solid a && chkP P b ts
  | .nil, [] => true
  | _, _ => false
section
variable {H : Type} {enc : TypeId × Value → H} {P : Program} {w : World} {base : Nat} {spare : Nat → Bool} {held : Bool}
/-- The arguments that an input hands over. -/
theorem args_of_trod {r : Reach} {b0 : Nat} : ∀ {ps : Ty} {ts : List TypeId} {vs : List Value} {ds : List (DataW H)} {p : List MemPlace}, chkP P ps ts = true →
    (∀ (j : Nat) t v, ts[j]? = some t → vs[j]? = some v → Value.okWide P w r b0 t v) → DataW.TrodAll enc P w base spare held ts vs ds p → ∃ x, ArgR w (okAll w) ps x vs ∧ Wf ps x := by
  intro ps
  induction ps with
  | cons a b _ ihb =>
    intro ts vs ds p hc hok h
    cases ts with
    | nil => simp [chkP] at hc
    | cons t ts =>
      simp only [chkP, Bool.and_eq_true] at hc
      cases vs with
      | nil => simp [DataW.TrodAll] at h
      | cons v vs =>
        cases ds with
        | nil => simp [DataW.TrodAll] at h
        | cons d ds =>
          obtain ⟨p1, q1, h1, h2, _⟩ := h
          obtain ⟨x, k1, k2⟩ := vrep_of_trod hc.1.2 hc.1.1 (hok 0 t v rfl rfl) h1
          obtain ⟨y, m1, m2⟩ := ihb hc.2 (fun j t' v' e1 e2 => hok (j + 1) t' v' (by simpa using e1) (by simpa using e2)) h2
          exact ⟨(x, y), ⟨v, vs, rfl, k1, m1⟩, k2, m2⟩
  | nil =>
    intro ts vs ds p hc hok h
    cases ts with
    | nil =>
      cases vs with
      | nil => exact ⟨(), rfl, trivial⟩
      | cons v vs => cases ds <;> simp [DataW.TrodAll] at h
    | cons t ts => simp [chkP] at hc
  | _ => intro ts vs ds p hc; cases ts <;> simp [chkP] at hc
end
end Go.Sy
namespace Go.Sy
open Go Go.RowKit Go.Lib
/-- A law's call: it hands back true, and nothing that was there has turned. -/
theorem calls_true {P : Program} {f : FuncId} {ps : Ty} {own : Bool} {F : Den ps → Option (Den (.cons .bool .nil))} (hS : Sat P [] f ⟨ps, .cons .bool .nil, own, F⟩) {W : World} {x : Den ps} {vs : List Value}
    (hx : ArgR W (okAll W) ps x vs) (hF : F x = some (true, ())) :
    Calls P f vs.toArray W fun | .returned v, W' => v = .bool true ∧ RowKit.Below W.heap.size W W' | _, _ => False := by
  have h := (hS W (okAll W) x vs (true, ()) (fun b hb => hb) (fun g x hg => by cases hg) hx hF).2
  refine h.mono fun e w' he => ?_
  cases e with
  | returned v =>
    obtain ⟨h1, h2, h3, h4, h5, h6⟩ := he
    exact ⟨VRep_bool h6, ⟨h3, h4, h5, h1, h2⟩⟩
  | panicked ch => exact he
  | outgrown => exact he
end Go.Sy
namespace Go.Sy
open Go Go.RowKit Go.Lib

theorem rep_ints {w : World} {ok : Nat → Prop} {n : Nat} {k : IntKind} {l : List (IDen k)} {cs : List Value} (h : RepC w ok (.arr n (.int k)) l cs) : cs = l.map fun x => Value.int k (toI k x) := by
  obtain ⟨h1, h2, h3⟩ := h
  have h2 : cs.length = n := by simpa [Ty.size] using h2
  apply List.ext_getElem?
  intro i
  rw [List.getElem?_map]
  cases hx : l[i]? with
  | none =>
    have := List.getElem?_eq_none_iff.1 hx
    rw [List.getElem?_eq_none (by omega)]; rfl
  | some x =>
    have h4 := h3 i x hx
    have h4 : (cs.drop (i * 1)).take 1 = [.int k (toI k x)] := h4
    rw [Nat.mul_one] at h4
    have h5 : ((cs.drop i).take 1)[0]? = some (.int k (toI k x)) := by rw [h4]; rfl
    rw [List.getElem?_take, if_pos (by omega), List.getElem?_drop] at h5
    simpa using h5
theorem tab_of_gl {P : Program} {gl : List (Nat × GV)} {w : World} {ok : Nat → Prop} {g n : Nat} {name : String} {k : IntKind} {l : List (IDen k)} {zs : List Int} (hgl : GlR gl w ok) (hm : (g, (⟨.arr n (.int k), l⟩ : GV)) ∈ gl)
    (hn : P.globalNamed name = some g) (hl : l.map (toI k) = zs) : Lib.TabIs P w name k zs := by
  obtain ⟨ds, ⟨e, fr, h1⟩, h2, _⟩ := hgl g _ hm
  have h3 := rep_ints h2
  subst h3
  unfold Lib.TabIs World.var?
  simp only [hn, Option.bind_some, h1]
  rw [← hl]
  simp
end Go.Sy
namespace Go.Sy
open Go Go.RowKit Go.Lib

/-- A law's call: it hands back true, and nothing that was there has turned. -/
theorem law_true {P : Program} {gl : List (Nat × GV)} {f : FuncId} {ps : Ty} {own : Bool} {F : Den ps → Option (Den (.cons .bool .nil))} (hS : Sat P gl f ⟨ps, .cons .bool .nil, own, F⟩) {W : World} (hg : GlR gl W (okAll W)) {x : Den ps} {vs : List Value}
    (hx : ArgR W (okAll W) ps x vs) (hF : F x = some (true, ())) :
    Calls P f vs.toArray W fun | .returned v, W' => v = .bool true ∧ RowKit.Below W.heap.size W W' | _, _ => False := by
  have h := (hS W (okAll W) x vs (true, ()) (fun b hb => hb) hg hx hF).2
  refine h.mono fun e w' he => ?_
  cases e with
  | returned v =>
    obtain ⟨h1, h2, h3, h4, h5, h6⟩ := he
    exact ⟨VRep_bool h6, ⟨h3, h4, h5, h1, h2⟩⟩
  | panicked ch => exact he
  | outgrown => exact he
/-- Types of arguments that read as they did. -/
def rdP (P : Program) : List TypeId → Bool
  | [] => true
  | t :: ts => P.readableRec t && decide (t < P.types.size) && rdP P ts
theorem all_below {H : Type} {enc : TypeId × Value → H} {P : Program} (hl : laidOutB P = true) {W W' : World} (hb : Below W.heap.size W W') : ∀ {ts : List TypeId} {vs : List Value} {ds : List (DataW H)} {ps : List MemPlace}, rdP P ts = true →
    DataW.TrodAll enc P W 0 (fun _ => true) true ts vs ds ps → (∀ x ∈ ps, x.block < W.heap.size) → DataW.TrodAll enc P W' 0 (fun b => decide (b < W.heap.size)) true ts vs ds ps := by
  intro ts
  induction ts with
  | nil => intro vs ds ps _ h _; cases vs <;> cases ds <;> first | exact h | exact h.elim
  | cons t ts ih =>
    intro vs ds ps hr h hlt
    simp only [rdP, Bool.and_eq_true, decide_eq_true_eq] at hr
    cases vs with
    | nil => exact h.elim
    | cons v vs =>
      cases ds with
      | nil => exact h.elim
      | cons d ds =>
        obtain ⟨p, q, h1, h2, rfl⟩ := h
        exact ⟨p, q, Below.trod hl hr.1.1 hr.1.2 h1 hb (fun x hx => hlt x (List.mem_append_left _ hx)), ih hr.2 h2 (fun x hx => hlt x (List.mem_append_right _ hx)), rfl⟩
/-- A law's row: true, and the arguments as they were. -/
theorem law_contract {H : Type} {enc : TypeId × Value → H} {P : Program} {gl : List (Nat × GV)} {f : FuncId} {fn : Func} {ps : Ty} {own apart : Bool} {F : Den ps → Option (Den (.cons .bool .nil))} {s : ChangeSpec} {tb : TypeId}
    (hS : Sat P gl f ⟨ps, .cons .bool .nil, own, F⟩) (hlaw : ∀ x, Wf ps x → F x = some (true, ())) (hc : chkP P ps fn.params.toList = true) (hl : laidOutB P = true) (hr : rdP P fn.params.toList = true)
    (hres : fn.resultTypes = #[tb]) (htb : P.underlying tb = some .bool) (hv : s.vars = []) (hfn : ∀ ds : List (DataW H), ds.length = fn.params.toList.length → s.fn H ds = { results := [.lit (.bool true)], args := ds })
    {W : World} {base : Nat} {args : Array Value} {ds gs : List (DataW H)} {before : List MemPlace} (hval : ∀ (j : Nat) t v, fn.params[j]? = some t → args[j]? = some v → Value.okWide P W .any base t v)
    (hW : DataW.Whole enc P fn.params.toList s.vars apart W args.toList ds gs before) (hg : GlR gl W (okAll W)) :
    Calls P f args W fun e W' => ∃ v, e = .returned v ∧ s.post enc P fn apart true false false W args v W' := by
  have hW0 := hW
  have hlt : ∀ p ∈ before, p.block < W.heap.size := fun p hp => hW.lt p hp
  obtain ⟨p, q, hA, hV, hbe, hfz, hnd⟩ := hW
  rw [hv] at hV
  have hgs : gs = [] ∧ q = [] := by
    cases gs with
    | nil => exact ⟨rfl, hV⟩
    | cons g r => exact hV.elim
  obtain ⟨rfl, rfl⟩ := hgs
  rw [List.append_nil] at hbe
  subst hbe
  obtain ⟨x, hx, hwf⟩ := args_of_trod hc (fun j t v h1 h2 => hval j t v (by rw [← Array.getElem?_toList]; exact h1) (by rw [← Array.getElem?_toList]; exact h2)) hA
  have hlen : ds.length = fn.params.toList.length := by
    have : ∀ {ts : List TypeId} {vs : List Value} {ds : List (DataW H)} {ps : List MemPlace}, DataW.TrodAll enc P W 0 (fun _ => true) true ts vs ds ps → ds.length = ts.length := by
      intro ts
      induction ts with
      | nil => intro vs ds ps h; cases vs <;> cases ds <;> first | rfl | exact h.elim
      | cons t ts ih =>
        intro vs ds ps h
        cases vs with
        | nil => exact h.elim
        | cons v vs =>
          cases ds with
          | nil => exact h.elim
          | cons d ds => obtain ⟨p, q, _, h2, _⟩ := h; simp [ih h2]
    exact this hA
  have h := law_true hS hg hx (hlaw x hwf)
  have ea : args.toList.toArray = args := by simp
  rw [ea] at h
  refine h.mono fun e W' he => ?_
  cases e with
  | returned v =>
    obtain ⟨rfl, hb⟩ := he
    refine ⟨_, rfl, ds, [], before, [], before, [], hW0, ?_, ?_, ?_, hb.frame _, fun h => by cases h⟩
    · rw [List.append_nil, hfn ds hlen, hres]
      exact ⟨[], [], shut_bool htb true, rfl, rfl⟩
    · rw [List.append_nil, hfn ds hlen]
      exact all_below hl hb hr hA hlt
    · rw [hv, List.append_nil, hfn ds hlen]; exact rfl
  | panicked ch => exact he.elim
  | outgrown => exact he.elim
/-- What a listed variable reads as, as a known datum. -/
def toDW {H : Type} : (τ : Ty) → Den τ → DataW H
  | .int k, x => .lit (.int k (toI k x))
  | .bool, x => .lit (.bool x)
  | .str, x => .lit (.string (x.map UInt8.ofBitVec))
  | .arr _ t, l => .agg (l.map (toDW t))
  | _, _ => .nil
def flatG : Ty → Bool
  | .int _ | .bool | .str => true
  | .arr _ t => flatG t
  | _ => false
theorem glob_rep {H : Type} {enc : TypeId × Value → H} {P : Program} {w : World} {ok : Nat → Prop} {base : Nat} {spare : Nat → Bool} {held : Bool} : ∀ {τ : Ty}, flatG τ = true → ∀ {t : TypeId} {fuel : Nat} {cs : List Value} {x : Den τ} {p : List MemPlace},
    chk P τ (.inl t) = true → DataW.trod enc P w base spare held fuel t cs = some (toDW τ x, p) → RepC w ok τ x cs := by
  intro τ
  induction τ with
  | int k =>
    intro _ t fuel cs x p hc h
    have hu := chk_int hc
    cases fuel with
    | zero => simp [DataW.trod] at h
    | succ fuel =>
      unfold DataW.trod at h
      rw [hu] at h
      have key : cs = [.int k (toI k x)] := by
        split at h <;> simp_all [toDW]
      exact key
  | bool =>
    intro _ t fuel cs x p hc h
    have hu := chk_bool hc
    cases fuel with
    | zero => simp [DataW.trod] at h
    | succ fuel =>
      unfold DataW.trod at h
      rw [hu] at h
      have key : cs = [.bool x] := by
        split at h <;> simp_all [toDW]
      exact key
  | str =>
    intro _ t fuel cs x p hc h
    have hu := chk_str hc
    cases fuel with
    | zero => simp [DataW.trod] at h
    | succ fuel =>
      unfold DataW.trod at h
      rw [hu] at h
      have key : ∃ s : ByteArray, cs = [.string s] ∧ s.data.toList = x.map UInt8.ofBitVec := by
        split at h <;> simp_all [toDW]
      obtain ⟨s, rfl, hs⟩ := key
      show [Value.string s] = [Value.string (bstr x)]
      have : s = bstr x := by
        cases s with
        | mk d => cases d with
          | mk l => simp only [bstr] at *; rw [← hs]
      rw [this]
  | arr n u ih =>
    intro hf t fuel cs x p hc h
    obtain ⟨e, hu, he⟩ := chk_arr hc
    have hct := cellsOf_chk hc
    have hce := cellsOf_chk he
    cases fuel with
    | zero => simp [DataW.trod] at h
    | succ fuel =>
      unfold DataW.trod at h
      rw [hu] at h
      simp only at h
      split at h
      · rename_i hlen
        obtain ⟨xs, hxs, he2⟩ := Option.map_eq_some_iff.1 h
        have hget := mapM_some_get hxs
        have hln := mapM_some_length hxs
        have hln : xs.length = n := by simpa using hln
        simp only [toDW, Prod.mk.injEq, DataW.agg.injEq] at he2
        have hxl : x.length = n := by
          have := congrArg List.length he2.1
          simp at this; omega
        refine ⟨hxl, by rw [hct] at hlen; simpa [Ty.size] using hlen, fun i y hy => ?_⟩
        have hi : i < n := by rw [← hxl]; exact (List.getElem?_eq_some_iff.1 hy).1
        have h1 := hget i i (by simp [hi])
        rw [List.getElem?_eq_getElem (by omega), hce] at h1
        have h2 : (xs.map (·.1))[i]? = some (toDW u y) := by
          rw [he2.1, List.getElem?_map]; rw [show (x : List (Den u))[i]? = some y from hy]; rfl
        rw [List.getElem?_map, List.getElem?_eq_getElem (by omega)] at h2
        have h3 : (xs[i]'(by omega)).1 = toDW u y := by simpa using h2
        rw [show xs[i]'(by omega) = (toDW u y, (xs[i]'(by omega)).2) from Prod.ext h3 rfl] at h1
        exact ih hf he h1
      · cases h
  | _ => intro hf; cases hf
theorem laid_mem {P : Program} {w : World} {n : String} {d : DataW Unit} : ∀ {l : List (String × DataW Unit)} {ps : List MemPlace}, DataW.LaidVars P w l ps → (n, d) ∈ l →
    ∃ g t cs fuel p, P.globalNamed n = some g ∧ (P.globals[g]?).map (·.type) = some t ∧ w.var? P n = some cs ∧ DataW.trod (fun _ => ()) P w 0 (fun _ => true) false fuel t cs.toList = some (d, p) := by
  intro l
  induction l with
  | nil => intro ps _ h; cases h
  | cons y r ih =>
    intro ps h hm
    obtain ⟨n', d'⟩ := y
    obtain ⟨g, t, cs, fuel, p, q, h1, h2, h3, h4, h5, _⟩ := h
    rcases List.mem_cons.1 hm with e | e
    · cases e; exact ⟨g, t, cs, fuel, p, h1, h2, h3, h4⟩
    · exact ih h5 e
/-- The globals are listed, each with its datum. -/
def GlLaid (P : Program) (laid : List (String × DataW Unit)) : List (Nat × GV) → Prop
  | [] => True
  | (g, x) :: r => (∃ n t, (n, toDW x.t x.x) ∈ laid ∧ P.globalNamed n = some g ∧ (P.globals[g]?).map (·.type) = some t ∧ flatG x.t = true ∧ chk P x.t (.inl t) = true) ∧ GlLaid P laid r
theorem gl_of_laid {P : Program} {laid : List (String × DataW Unit)} {W : World} (h : laidMet P laid W) : ∀ {gl : List (Nat × GV)}, GlLaid P laid gl → GlR gl W (okAll W) := by
  obtain ⟨ps, h, _⟩ := h
  intro gl
  induction gl with
  | nil => intro _ g x hm; cases hm
  | cons y r ih =>
    intro hg g x hm
    obtain ⟨g', x'⟩ := y
    obtain ⟨⟨n, t, m1, m2, m3, m4, m5⟩, hr⟩ := hg
    rcases List.mem_cons.1 hm with e | e
    · cases e
      obtain ⟨g2, t2, cs, fuel, p, k1, k2, k3, k4⟩ := laid_mem h m1
      rw [m2] at k1; cases k1
      rw [m3] at k2; cases k2
      unfold World.var? at k3
      rw [m2] at k3
      simp only [Option.bind_some] at k3
      split at k3
      · rename_i cs' e fr hb
        cases k3
        exact ⟨cs.toList, ⟨e, fr, by simpa using hb⟩, glob_rep m4 m5 k4, (Array.getElem?_eq_some_iff.1 hb).1⟩
      · cases k3
    · exact ih hr g x e
end Go.Sy
namespace Go.Sy
open Go Go.RowKit Go.Lib
/-- The bytes of an element of a slice type. -/
def elemBytes (P : Program) (t : TypeId) : Nat := match P.underlying t with | some (.slice e) => P.bytesOf e | _ => 0
/-- The arguments that are lists or texts are not too great. -/
def WfS (P : Program) : (ps : Ty) → List TypeId → Den ps → Prop
  | .cons (.sl _) b, t :: ts, x => x.1.length * elemBytes P t ≤ reachBytes ∧ WfS P b ts x.2
  | .cons .str b, _ :: ts, x => x.1.length ≤ reachBytes ∧ WfS P b ts x.2
  | .cons _ b, _ :: ts, x => WfS P b ts x.2
  | _, _, _ => True
section
variable {H : Type} {enc : TypeId × Value → H} {P : Program} {w : World} {base : Nat} {spare : Nat → Bool} {held : Bool}
theorem wfS_of_trod {ok : Nat → Prop} : ∀ {ps : Ty} {ts : List TypeId} {vs : List Value} {ds : List (DataW H)} {p : List MemPlace} {x : Den ps}, chkP P ps ts = true →
    DataW.TrodAll enc P w base spare held ts vs ds p → ArgR w ok ps x vs → (DataW.weightsEach P ts ds).all (fun n => decide (n ≤ reachBytes)) = true → WfS P ps ts x := by
  intro ps
  induction ps with
  | cons a b _ ihb =>
    intro ts vs ds p x hc h hx hw
    cases ts with
    | nil => simp [chkP] at hc
    | cons t ts =>
      simp only [chkP, Bool.and_eq_true] at hc
      cases vs with
      | nil => simp [DataW.TrodAll] at h
      | cons v vs =>
        cases ds with
        | nil => simp [DataW.TrodAll] at h
        | cons d ds =>
          obtain ⟨p1, q1, h1, h2, _⟩ := h
          obtain ⟨v', r', e1, k1, k2⟩ := hx
          cases e1
          have hw' : (d.weights P t).all (fun n => decide (n ≤ reachBytes)) = true ∧ (DataW.weightsEach P ts ds).all (fun n => decide (n ≤ reachBytes)) = true := by
            have e : DataW.weightsEach P (t :: ts) (d :: ds) = d.weights P t ++ DataW.weightsEach P ts ds := by rw [DataW.weightsEach]
            rw [e, List.all_append, Bool.and_eq_true] at hw
            exact hw
          have rest := ihb hc.2 h2 k2 hw'.2
          cases a with
          | sl u =>
            refine ⟨?_, rest⟩
            obtain ⟨e, hu, he⟩ := chk_sl hc.1.1
            obtain ⟨fuel, h1⟩ := h1
            unfold VRep at k1
            rw [if_neg (by simp [Ty.isAgg])] at k1
            obtain ⟨a0, cap, ev, -, -⟩ := k1
            have ev : v = .slice a0 (List.length x.1) cap := by simpa using ev
            subst ev
            have hcell : (Value.slice a0 (List.length x.1) cap).cells.toList = [.slice a0 (List.length x.1) cap] := rfl
            rw [hcell] at h1
            unfold elemBytes
            rw [hu]
            rcases DataW.trod_slice hu h1 with ⟨e1, _⟩ | ⟨a, len, cap', elems, rst, n, _, e1, e2, _, _, _, hlen, _⟩
            · have : List.length x.1 = 0 := by
                simp at e1
                rw [e1.2.1]
                rfl
              show List.length x.1 * P.bytesOf e ≤ reachBytes
              rw [this, Nat.zero_mul]
              exact Nat.zero_le _
            · have hl : List.length x.1 = len := by simp at e1; exact e1.2.1
              have hd : d = .slice (elems.map (·.1)) (rst.map (·.1)) := congrArg Prod.fst e2
              have hww := hw'.1
              rw [hd, DataW.weights, hu] at hww
              simp only [List.all_cons, Bool.and_eq_true, decide_eq_true_eq, List.length_map] at hww
              show List.length x.1 * P.bytesOf e ≤ reachBytes
              rw [hl, ← hlen]
              exact Nat.le_trans (Nat.mul_le_mul_right _ (Nat.le_add_right _ _)) hww.1
          | str =>
            refine ⟨?_, rest⟩
            have hu := chk_str hc.1.1
            obtain ⟨fuel, h1⟩ := h1
            unfold VRep at k1
            rw [if_neg (by simp [Ty.isAgg])] at k1
            have ev : v = .string (bstr x.1) := by
              have : [v] = [Value.string (bstr x.1)] := k1
              simpa using this
            subst ev
            have hcell : (Value.string (bstr x.1)).cells.toList = [.string (bstr x.1)] := rfl
            rw [hcell] at h1
            obtain ⟨s, e1, e2, -⟩ := DataW.trod_string hu h1
            have e1 : bstr x.1 = s := by simpa using e1
            have hd : d = .lit (.string s.data.toList) := congrArg Prod.fst e2
            have hl : s.data.toList.length = x.1.length := by
              have h3 : x.1.length = (bstr x.1).size := by rw [← lstr_len, lstr_bstr]
              rw [h3, e1]
              rfl
            subst hd
            have hww := hw'.1
            rw [DataW.weights] at hww
            simp only [List.all_cons, List.all_nil, Bool.and_true, decide_eq_true_eq] at hww
            rw [← hl]
            exact hww
          | _ => exact rest
  | _ => intro ts vs ds p x hc h hx hw; trivial
theorem weights_app {ts us : List TypeId} : ∀ {ds : List (DataW H)}, ds.length = ts.length → DataW.weightsEach P (ts ++ us) (ds ++ []) = DataW.weightsEach P ts ds := by
  induction ts with
  | nil =>
    intro ds h
    cases ds with
    | nil => cases us <;> simp [DataW.weightsEach]
    | cons d ds => simp at h
  | cons t ts ih =>
    intro ds h
    cases ds with
    | nil => simp at h
    | cons d ds =>
      have e : ∀ l : List TypeId, DataW.weightsEach P (t :: l) (d :: (ds ++ [])) = d.weights P t ++ DataW.weightsEach P l (ds ++ []) := fun l => by rw [DataW.weightsEach]
      have e' : DataW.weightsEach P (t :: ts) (d :: ds) = d.weights P t ++ DataW.weightsEach P ts ds := by rw [DataW.weightsEach]
      show DataW.weightsEach P (t :: (ts ++ us)) (d :: (ds ++ [])) = _
      rw [e, e', ih (by simpa using h)]
end
/-- A law's row from its contract, where the lists' sizes are spoken of. -/
theorem law_contractS {H : Type} {enc : TypeId × Value → H} {P : Program} {gl : List (Nat × GV)} {f : FuncId} {fn : Func} {ps : Ty} {own apart : Bool} {F : Den ps → Option (Den (.cons .bool .nil))} {s : ChangeSpec} {tb : TypeId} {us : List TypeId}
    (hS : Sat P gl f ⟨ps, .cons .bool .nil, own, F⟩) (hlaw : ∀ x, Wf ps x → WfS P ps fn.params.toList x → F x = some (true, ())) (hc : chkP P ps fn.params.toList = true) (hl : laidOutB P = true) (hr : rdP P fn.params.toList = true)
    (hres : fn.resultTypes = #[tb]) (htb : P.underlying tb = some .bool) (hv : s.vars = []) (hfn : ∀ ds : List (DataW H), ds.length = fn.params.toList.length → s.fn H ds = { results := [.lit (.bool true)], args := ds })
    {W : World} {base : Nat} {args : Array Value} {ds gs : List (DataW H)} {before : List MemPlace} (hval : ∀ (j : Nat) t v, fn.params[j]? = some t → args[j]? = some v → Value.okWide P W .any base t v)
    (hW : DataW.Whole enc P fn.params.toList s.vars apart W args.toList ds gs before) (hg : GlR gl W (okAll W))
    (hwt : ((DataW.weightsEach P (fn.params.toList ++ us) (ds ++ gs)).all fun n => decide (n ≤ reachBytes)) = true) :
    Calls P f args W fun e W' => ∃ v, e = .returned v ∧ s.post enc P fn apart true false false W args v W' := by
  have hW0 := hW
  have hlt : ∀ p ∈ before, p.block < W.heap.size := fun p hp => hW.lt p hp
  obtain ⟨p, q, hA, hV, hbe, hfz, hnd⟩ := hW
  rw [hv] at hV
  have hgs : gs = [] ∧ q = [] := by
    cases gs with
    | nil => exact ⟨rfl, hV⟩
    | cons g r => exact hV.elim
  obtain ⟨rfl, rfl⟩ := hgs
  rw [List.append_nil] at hbe
  subst hbe
  obtain ⟨x, hx, hwf⟩ := args_of_trod hc (fun j t v h1 h2 => hval j t v (by rw [← Array.getElem?_toList]; exact h1) (by rw [← Array.getElem?_toList]; exact h2)) hA
  have hlen : ds.length = fn.params.toList.length := by
    have : ∀ {ts : List TypeId} {vs : List Value} {ds : List (DataW H)} {ps : List MemPlace}, DataW.TrodAll enc P W 0 (fun _ => true) true ts vs ds ps → ds.length = ts.length := by
      intro ts
      induction ts with
      | nil => intro vs ds ps h; cases vs <;> cases ds <;> first | rfl | exact h.elim
      | cons t ts ih =>
        intro vs ds ps h
        cases vs with
        | nil => exact h.elim
        | cons v vs =>
          cases ds with
          | nil => exact h.elim
          | cons d ds => obtain ⟨p, q, _, h2, _⟩ := h; simp [ih h2]
    exact this hA
  rw [weights_app hlen] at hwt
  have h := law_true hS hg hx (hlaw x hwf (wfS_of_trod hc hA hx hwt))
  have ea : args.toList.toArray = args := by simp
  rw [ea] at h
  refine h.mono fun e W' he => ?_
  cases e with
  | returned v =>
    obtain ⟨rfl, hb⟩ := he
    refine ⟨_, rfl, ds, [], before, [], before, [], hW0, ?_, ?_, ?_, hb.frame _, fun h => by cases h⟩
    · rw [List.append_nil, hfn ds hlen, hres]
      exact ⟨[], [], shut_bool htb true, rfl, rfl⟩
    · rw [List.append_nil, hfn ds hlen]
      exact all_below hl hb hr hA hlt
    · rw [hv, List.append_nil, hfn ds hlen]; exact rfl
  | panicked ch => exact he.elim
  | outgrown => exact he.elim
end Go.Sy
