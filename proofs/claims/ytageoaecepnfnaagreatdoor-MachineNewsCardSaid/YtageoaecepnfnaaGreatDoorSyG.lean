/- A symbolic evaluator of the model's code, shown sound once for every program (part 7 of 9): what it computes of a function is what the function does. -/
import Derived.Test.YtageoaecepnfnaaGreatDoorSyF
import Derived.Lib.LazyBuf
namespace Go.Sy
open Go Go.RowKit Go.Lib

/-- What the reader of a function's code is told: where paths meet, and what is handed on there. -/
inductive Ann where
  | nil
  | nd (j : Option Pk) (a b : Ann)
def Ann.l : Ann → Ann
  | .nd _ a _ => a
  | .nil => .nil
def Ann.r : Ann → Ann
  | .nd _ _ b => b
  | .nil => .nil
def Ann.j : Ann → Option Pk
  | .nd j _ _ => j
  | .nil => none
def exBlk (id : Nat) : Exit → Exit
  | .exit i => if Nat.beq i id then .normal else .exit i
  | e => e
def St.knowO (st : St) (b : Bool) : Operand → St
  | .tmp d => st.know d b
  | _ => st
/-- How a region drawn in any order is carried on. -/
abbrev Dr := Array Oper → St → (R : Type) → (St → Option R) → Option R
def DOk (E : Env) (P : Program) (D : Dr) : Prop :=
  ∀ (ops : Array Oper) (st : St) (R : Type) (K : St → Option R) (r : R), D ops st R K = some r → ∀ (c : Cx) (a : Act) (id : Nat) (Q : Exit → Act → World → Prop), c.P = P → Sm E c st a →
    (∀ st' c' a', K st' = some r → Sm E c' st' a' → Gone c st a c' st' a' → Q .normal a' c'.w) → (Code.region id ops true).wp P Q a c.w
/-- Where ways meet: go on with what is handed over, or be done. -/
def jn {R Z : Type} (m : Option (R ⊕ Z)) (f : Z → Option R) : Option R :=
  match m with
  | some (.inl r) => some r
  | some (.inr z) => f z
  | none => none
noncomputable def symC (E : Env) (H : Hd) (D : Dr) : Code → Ann → St → (R : Type) → (Exit → St → Option R) → Option R
  | .skip, _, st, _, K => K .normal st
  | .region _ ops draw, _, st, R, K => if draw = true then D ops st R (K .normal) else opsS E H ops (List.range ops.size) st R (K .normal)
  | .seq x y, an, st, R, K => match an.j with
    | none => symC E H D x an.l st R fun e s => match e with
      | .normal => symC E H D y an.r s R K
      | e => K e s
    | some X => match symC E H D x an.l st.clean (R ⊕ Den (itTy X.it)) fun e s => match e with
        | .normal => (pack X st.hp.objs.length s).map .inr
        | e => (K e (st.log s)).map .inl with
      | some (.inl r) => some r
      | some (.inr z) => symC E H D y an.r (unpack X st z) R K
      | none => none
  | .cond c x y, an, st, R, K => match evO E st.tm c with
    | .kb b => if b = true then symC E H D x an.l st R K else symC E H D y an.r st R K
    | .v .bool b => cond b (symC E H D x an.l (st.knowO true c) R K) (symC E H D y an.r (st.knowO false c) R K)
    | _ => none
  | .block id x, an, st, R, K => symC E H D x an.l st R fun e s => K (exBlk id e) s
  | .loop x, an, st, R, K => match an.j with
    | none => none
    | some X => match pack X st.hp.objs.length st.clean with
      | some z => loopT (fun z => symC E H D x an.l (unpack X st.clean z) (R ⊕ Den (itTy X.it)) fun e s => match e with
        | .normal => (pack X st.hp.objs.length s).map .inr
        | e => (K e (st.log s)).map .inl) z
      | none => none
  | .exit id, _, st, _, K => K (.exit id) st
  | .ret, _, st, _, K => K .ret st
  | _, _, _, _, _ => none

theorem Sm.clean {E : Env} {c : Cx} {st : St} {a : Act} (h : Sm E c st a) : Sm E c st.clean a := ⟨h.ok, h.objs, h.size, h.av, h.defers⟩
theorem Sm.log {E : Env} {c : Cx} {st s : St} {a : Act} (h : Sm E c s a) : Sm E c (st.log s) a := ⟨h.ok, h.objs, h.size, h.av, h.defers⟩
theorem Gone.log {c c' : Cx} {st s : St} {a a' : Act} (h : Gone c st.clean a c' s a') : Gone c st a c' (st.log s) a' := by
  refine ⟨h.evol, ⟨h.agr.len, fun o ho => ?_, fun o ho hd => ?_⟩, fun i hi => ?_, fun i hi => ?_, h.len⟩
  · show (s.hp.dO ++ st.hp.dO).contains o = true
    simp only [List.contains_eq_mem, List.mem_append, decide_eq_true_eq] at ho ⊢
    exact .inr ho
  · have hd : (s.hp.dO ++ st.hp.dO).contains o = false := hd
    simp only [List.contains_eq_mem, List.mem_append, decide_eq_false_iff_not, not_or] at hd
    exact h.agr.same o ho (by simpa using hd.1)
  · show (s.dT ++ st.dT).contains i = true
    simp only [List.contains_eq_mem, List.mem_append, decide_eq_true_eq] at hi ⊢
    exact .inr hi
  · have hi : (s.dT ++ st.dT).contains i = false := hi
    simp only [List.contains_eq_mem, List.mem_append, decide_eq_false_iff_not, not_or] at hi
    exact h.tm i (by simpa using hi.1)
theorem exBlk_wp {id : Nat} {Q : Exit → Act → World → Prop} {e : Exit} {a : Act} {w : World} (h : Q (exBlk id e) a w) : Exit.inBlock id Q e a w := by
  cases e with
  | exit i =>
    simp only [exBlk, Exit.inBlock] at h ⊢
    by_cases e : i = id
    · subst e; rw [if_pos (Nat.beq_refl i)] at h; rw [if_pos rfl]; exact h
    · rw [if_neg (fun k => e (Nat.eq_of_beq_eq_true k))] at h; rw [if_neg e]; exact h
  | _ => exact h
theorem symC_ok {E : Env} {P : Program} {H : Hd} {D : Dr} (hE : E.Ok P) (hH : HOk E P H) (hD : DOk E P D) : ∀ {code : Code} {an : Ann} {st : St} {R : Type} {K : Exit → St → Option R} {r : R},
    symC E H D code an st R K = some r → ∀ {c : Cx} {a : Act} {Q : Exit → Act → World → Prop}, c.P = P → Sm E c st a →
    (∀ e st' c' a', K e st' = some r → Sm E c' st' a' → Gone c st a c' st' a' → Q e a' c'.w) → code.wp P Q a c.w := by
  intro code
  induction code with
  | skip => intro an st R K r hk c a Q hP hs hn; exact wp_skip (hn .normal st c a hk hs (Gone.refl _ _ _))
  | region id ops draw =>
    intro an st R K r hk c a Q hP hs hn
    simp only [symC] at hk
    split at hk
    · rename_i hd
      subst hd
      exact hD ops st R _ r hk c a id Q hP hs fun st' c' a' => hn .normal st' c' a'
    · rename_i hd
      have hd : draw = false := by simpa using hd
      subst hd
      exact wp_region (opsS_ok hE hH hk hP hs fun st' c' a' => hn .normal st' c' a')
  | seq x y ihx ihy =>
    intro an st R K r hk c a Q hP hs hn
    simp only [symC] at hk
    refine wp_seq ?_
    split at hk
    · refine ihx hk hP hs fun e st' c' a' k1 k2 k3 => ?_
      cases e with
      | normal => exact ihy k1 (k3.evol.P.trans hP) k2 fun e st'' c'' a'' q1 q2 q3 => hn e st'' c'' a'' q1 q2 (k3.trans q3)
      | _ => exact hn _ st' c' a' k1 k2 k3
    · rename_i X _
      split at hk
      · rename_i r' hm
        cases hk
        refine ihx hm hP hs.clean fun e s c' a' k1 k2 k3 => ?_
        cases e with
        | normal =>
          obtain ⟨z, _, hz⟩ := Option.map_eq_some_iff.1 k1
          cases hz
        | _ =>
          obtain ⟨z, hz, he⟩ := Option.map_eq_some_iff.1 k1
          cases he
          exact hn _ _ c' a' hz k2.log k3.log
      · rename_i z hm
        refine ihx hm hP hs.clean fun e s c' a' k1 k2 k3 => ?_
        cases e with
        | normal =>
          obtain ⟨z', hz, he⟩ := Option.map_eq_some_iff.1 k1
          cases he
          obtain ⟨c'', q1, q2, q3⟩ := pack_ok hs k2 k3 hz
          show y.wp P Q a' c'.w
          rw [← q1]
          exact ihy hk (q3.evol.P.trans hP) q2 fun e st'' c3 a'' p1 p2 p3 => hn e st'' c3 a'' p1 p2 (q3.trans p3)
        | _ =>
          obtain ⟨z', _, he⟩ := Option.map_eq_some_iff.1 k1
          cases he
      · cases hk
  | cond x t f iht ihf =>
    intro an st R K r hk c a Q hP hs hn
    simp only [symC] at hk
    have hx := evO_ok hs x
    split at hk
    · rename_i b hb
      rw [hb] at hx
      have hv : a.eval x = .bool b := by have : [a.eval x] = [Value.bool b] := hx; simpa using this
      refine wp_cond hv ?_
      split at hk
      · rename_i e; subst e; exact iht hk hP hs hn
      · rename_i e
        have e : b = false := by simpa using e
        subst e; exact ihf hk hP hs hn
    · rename_i b hb
      rw [hb] at hx
      obtain ⟨u, hu, hx⟩ := hx
      have hx := VRep_bool hx
      have hv : a.eval x = .bool b := by cases hu; exact hx
      have kn : Sm E c (st.knowO b x) a ∧ Gone c st a c (st.knowO b x) a := by
        cases x with
        | tmp d => exact hs.know hv
        | _ => exact ⟨hs, Gone.refl _ _ _⟩
      obtain ⟨m1, m2⟩ := kn
      refine wp_cond hv ?_
      cases b with
      | true => exact iht hk hP m1 fun e st' c' a' q1 q2 q3 => hn e st' c' a' q1 q2 (m2.trans q3)
      | false => exact ihf hk hP m1 fun e st' c' a' q1 q2 q3 => hn e st' c' a' q1 q2 (m2.trans q3)
    · cases hk
  | block id x ih =>
    intro an st R K r hk c a Q hP hs hn
    simp only [symC] at hk
    refine wp_block (ih hk hP hs fun e st' c' a' k1 k2 k3 => ?_)
    exact exBlk_wp (hn _ st' c' a' k1 k2 k3)
  | loop x ih =>
    intro an st R K r hk c a Q hP hs hn
    simp only [symC] at hk
    split at hk
    · cases hk
    · rename_i X _
      split at hk
      · rename_i z0 hz0
        obtain ⟨n, hn0⟩ := loopT_iff.1 hk
        obtain ⟨c1, q1, q2, q3⟩ := pack_ok (st := st.clean) hs.clean hs.clean (Gone.refl c st.clean a) hz0
        intro b k cs
        have key : ∀ (n : Nat) (z : Den (itTy X.it)) (c' : Cx) (a' : Act), loopN (fun z => symC E H D x an.l (unpack X st.clean z) (R ⊕ Den (itTy X.it)) fun e s => match e with
            | .normal => (pack X st.hp.objs.length s).map .inr
            | e => (K e (st.log s)).map .inl) n z = some r → Sm E c' (unpack X st.clean z) a' → Gone c st.clean a c' (unpack X st.clean z) a' →
            ∃ e a'' w', Q e a'' w' ∧ Arrives P (lone (b.at a' (.code x :: .inLoop x :: k)) cs c'.w) b k cs e a'' w' := by
          intro n
          induction n with
          | zero => intro z c' a' h; cases h
          | succ n ihn =>
            intro z c' a' h hs1 hg1
            simp only [loopN] at h
            split at h
            · rename_i r' hm
              cases h
              obtain ⟨e, a2, w2, hq, harr⟩ := ih (Q := Exit.then (fun _ _ => False) Q) hm (hg1.evol.P.trans hP) hs1 (fun e s c2 a2 k1 k2 k3 => by
                cases e with
                | normal =>
                  obtain ⟨z', _, he⟩ := Option.map_eq_some_iff.1 k1
                  cases he
                | _ =>
                  obtain ⟨z', hz, he⟩ := Option.map_eq_some_iff.1 k1
                  cases he
                  exact hn _ _ c2 a2 hz k2.log (hg1.trans k3).log) b (.inLoop x :: k) cs
              cases e with
              | normal => exact hq.elim
              | exit id => exact ⟨_, a2, w2, hq, .pass (x := .inLoop x) rfl (fun _ _ => .inl (by simp)) harr⟩
              | goto l => exact ⟨_, a2, w2, hq, .pass (x := .inLoop x) rfl (fun _ _ => .inl (by simp)) harr⟩
              | ret => exact ⟨_, a2, w2, hq, .pass (x := .inLoop x) rfl (fun _ _ => .inl (by simp)) harr⟩
              | panic ch => exact ⟨_, a2, w2, hq, .pass (x := .inLoop x) rfl (fun _ _ => .inl (by simp)) harr⟩
              | outgrown => exact ⟨_, a2, w2, hq, .pass (x := .inLoop x) rfl (fun _ _ => .inl (by simp)) harr⟩
            · rename_i y hm
              obtain ⟨e, a2, w2, hq, harr⟩ := ih (Q := Exit.then (fun a2 w2 => ∃ c2 : Cx, c2.w = w2 ∧ Sm E c2 (unpack X st.clean y) a2 ∧ Gone c st.clean a c2 (unpack X st.clean y) a2) fun _ _ _ => False)
                hm (hg1.evol.P.trans hP) hs1 (fun e s c2 a2 k1 k2 k3 => by
                cases e with
                | normal =>
                  obtain ⟨z', hz, he⟩ := Option.map_eq_some_iff.1 k1
                  cases he
                  obtain ⟨c3, p1, p2, p3⟩ := pack_ok (st := st.clean) hs.clean k2 (hg1.trans k3) hz
                  exact ⟨c3, p1, p2, p3⟩
                | _ =>
                  obtain ⟨z', hz, he⟩ := Option.map_eq_some_iff.1 k1
                  cases he) b (.inLoop x :: k) cs
              cases e with
              | normal =>
                obtain ⟨c2, p1, p2, p3⟩ := hq
                subst p1
                obtain ⟨e3, a3, w3, hq3, harr3⟩ := ihn y c2 a2 h p2 p3
                exact ⟨e3, a3, w3, hq3, .of_steps (Steps.trans harr (.one step_inLoop)) harr3⟩
              | _ => exact hq.elim
            · cases h
        rw [← q1]
        obtain ⟨e, a', w', hq, harr⟩ := key n z0 c1 a hn0 q2 q3
        exact ⟨e, a', w', hq, .of_steps (.one step_loop) harr⟩
      · cases hk
  | exit id => intro an st R K r hk c a Q hP hs hn; exact wp_exit (hn (.exit id) st c a hk hs (Gone.refl _ _ _))
  | ret => intro an st R K r hk c a Q hP hs hn; exact wp_ret (hn .ret st c a hk hs (Gone.refl _ _ _))
  | _ => intro an st R K r hk; simp [symC] at hk
end Go.Sy
namespace Go.Sy
open Go Go.RowKit Go.Lib

def ArgR (w : World) (ok : Nat → Prop) : (t : Ty) → Den t → List Value → Prop
  | .cons a b, x, vs => ∃ v r, vs = v :: r ∧ VRep w ok a x.1 v ∧ ArgR w ok b x.2 r
  | .nil, _, vs => vs = []
  | _, _, _ => False
def argAV : (t : Ty) → Den t → List AV
  | .cons a b, x => .v a x.1 :: argAV b x.2
  | _, _ => []
def prOf : (t : Ty) → Den t → AV
  | .cons a b, x => .pr (.v a x.1) (prOf b x.2)
  | _, _ => .un
def resAV : (t : Ty) → Den t → AV
  | .cons a .nil, x => .v a x.1
  | t, x => .tup (prOf t x)
def ResR (w : World) (ok : Nat → Prop) : (t : Ty) → Den t → Value → Prop
  | .cons a .nil, x, v => VRep w ok a x.1 v
  | t, x, v => ∃ cs : List Value, v = .tuple cs.toArray ∧ ArgR w ok t x cs
def takeA (h : Hp) : (t : Ty) → List AV → Option (Den t × Hp)
  | .cons a b, av :: r => (match take h a av with
    | some (x, h1) => (match takeA h1 b r with
      | some (y, h2) => some ((x, y), h2)
      | none => none)
    | none => none)
  | .nil, [] => some ((), h)
  | _, _ => none
theorem AVs.evol {c c' : Cx} (h : c.Evol c') {as : List AV} {vs : List Value} (k : AVs c as vs) : AVs c' as vs := by
  induction k with
  | nil => exact .nil
  | cons h1 _ ih => exact .cons (h1.evol h) ih
theorem takeA_ok {E : Env} : ∀ {t : Ty} {avs : List AV} {c : Cx} {h h' : Hp} {x : Den t} {vs : List Value}, c.Ok E → c.objs = h.objs → takeA h t avs = some (x, h') → AVs c avs vs →
    (c.at h').Ok E ∧ c.Evol (c.at h') ∧ h.Agr h' ∧ ArgR c.w (c.at h').okb t x vs := by
  intro t
  induction t with
  | cons a b _ ihb =>
    intro avs c h h' x vs ho hh ht hr
    cases hr with
    | nil => simp [takeA] at ht
    | cons h1 hr =>
      simp only [takeA] at ht
      split at ht
      · rename_i y h1' e1
        split at ht
        · rename_i z h2' e2
          cases ht
          obtain ⟨k1, k2, k3, k4⟩ := take_ok ho hh e1 h1
          obtain ⟨j1, j2, j3, j4⟩ := ihb (c := c.at h1') k1 rfl e2 (hr.evol k2)
          exact ⟨j1, k2.trans j2, k3.trans j3, _, _, rfl, k4.mono (fun b hb => ⟨rfl, (j2.okb b hb).2⟩), j4⟩
        · cases ht
      · cases ht
  | nil =>
    intro avs c h h' x vs ho hh ht hr
    cases hr with
    | nil =>
      simp only [takeA] at ht
      cases ht
      have hc : c.at h = c := by cases c; subst hh; rfl
      rw [hc]
      exact ⟨ho, Cx.Evol.refl c, Hp.Agr.refl _, rfl⟩
    | cons h1 hr => simp [takeA] at ht
  | _ => intro avs c h h' x vs _ _ ht; cases avs <;> simp [takeA] at ht
theorem argAV_ok {c : Cx} : ∀ {t : Ty} {x : Den t} {vs : List Value}, ArgR c.w c.okb t x vs → AVs c (argAV t x) vs := by
  intro t
  induction t with
  | cons a b _ ihb => intro x vs h; obtain ⟨v, r, rfl, h1, h2⟩ := h; exact .cons (AVL_v h1) (ihb h2)
  | nil => intro x vs h; have h : vs = [] := h; subst h; exact .nil
  | _ => intro x vs h; exact h.elim
theorem ArgR.mono {w w' : World} {ok ok' : Nat → Prop} (hb : ∀ b, ok b → w'.heap[b]? = w.heap[b]? ∧ ok' b) : ∀ {t : Ty} {x : Den t} {vs : List Value}, ArgR w ok t x vs → ArgR w' ok' t x vs := by
  intro t
  induction t with
  | cons a b _ ihb => intro x vs h; obtain ⟨v, r, rfl, h1, h2⟩ := h; exact ⟨v, r, rfl, h1.mono hb, ihb h2⟩
  | nil => intro x vs h; exact h
  | _ => intro x vs h; exact h
theorem prOf_ok {c : Cx} : ∀ {t : Ty} {x : Den t} {vs : List Value}, ArgR c.w c.okb t x vs → AVL c (prOf t x) vs := by
  intro t
  induction t with
  | cons a b _ ihb => intro x vs h; obtain ⟨v, r, rfl, h1, h2⟩ := h; exact ⟨v, r, rfl, AVL_v h1, ihb h2⟩
  | nil => intro x vs h; exact h
  | _ => intro x vs h; exact h.elim
theorem resAV_ok {c : Cx} {t : Ty} {x : Den t} {v : Value} (h : ResR c.w c.okb t x v) : AVL c (resAV t x) [v] := by
  cases t with
  | cons a b =>
    cases b with
    | nil => exact AVL_v h
    | _ => obtain ⟨cs, rfl, h2⟩ := h; exact ⟨cs, rfl, prOf_ok h2⟩
  | _ => obtain ⟨cs, rfl, h2⟩ := h; exact ⟨cs, rfl, prOf_ok h2⟩
theorem ResR.mono {w w' : World} {ok ok' : Nat → Prop} (hb : ∀ b, ok b → w'.heap[b]? = w.heap[b]? ∧ ok' b) {t : Ty} {x : Den t} {v : Value} (h : ResR w ok t x v) : ResR w' ok' t x v := by
  cases t with
  | cons a b =>
    cases b with
    | nil => exact VRep.mono hb h
    | _ => obtain ⟨cs, rfl, h2⟩ := h; exact ⟨cs, rfl, h2.mono hb⟩
  | _ => obtain ⟨cs, rfl, h2⟩ := h; exact ⟨cs, rfl, h2.mono hb⟩

/-- The globals hold what they hold. -/
def GlR (gl : List (Nat × GV)) (w : World) (ok : Nat → Prop) : Prop := ∀ g x, (g, x) ∈ gl → ∃ ds, GBlk w g ds ∧ RepC w ok x.t x.x ds ∧ ok g
/-- The function keeps its contract. -/
def Sat (P : Program) (gl : List (Nat × GV)) (f : FuncId) (k : Con) : Prop :=
  ∀ (w : World) (ok : Nat → Prop) (x : Den k.ps) (vs : List Value) (r : Den k.rs), (∀ b, ok b → b < w.heap.size) → GlR gl w ok → ArgR w ok k.ps x vs → k.F x = some r →
    (callFunc f vs.toArray).run P w = .ok (.enter f vs.toArray) w ∧ Calls P f vs.toArray w fun
      | .returned v, w' => w.heap.size ≤ w'.heap.size ∧ (∀ b, b < w.heap.size → w'.heap[b]? = w.heap[b]?) ∧ w'.os = w.os ∧ w'.tape = w.tape ∧ w'.output = w.output ∧
          ResR w' (fun b => ok b ∨ (w.heap.size ≤ b ∧ b < w'.heap.size)) k.rs r v
      | _, _ => False
/-- No slice is in data of this type: they share no memory with anything. -/
def noSl : Ty → Bool
  | .sl _ => false
  | .opq => false
  | .arr _ t => noSl t
  | .cons a b => noSl a && noSl b
  | _ => true
theorem RepC.any {w w' : World} {ok ok' : Nat → Prop} : ∀ {τ : Ty} {x : Den τ} {cs : List Value}, noSl τ = true → RepC w ok τ x cs → RepC w' ok' τ x cs := by
  intro τ
  induction τ with
  | sl t _ => intro x cs h; cases h
  | opq => intro x cs h; cases h
  | arr n t ih => intro x cs h k; exact ⟨k.1, k.2.1, fun i y hy => ih h (k.2.2 i y hy)⟩
  | cons a b iha ihb =>
    intro x cs h k
    simp only [noSl, Bool.and_eq_true] at h
    obtain ⟨c, d, rfl, h1, h2⟩ := k
    exact ⟨c, d, rfl, iha h.1 h1, ihb h.2 h2⟩
  | _ => intro x cs _ k; exact k
theorem VRep.any {w w' : World} {ok ok' : Nat → Prop} {τ : Ty} {x : Den τ} {v : Value} (hn : noSl τ = true) (h : VRep w ok τ x v) : VRep w' ok' τ x v := by
  unfold VRep at h ⊢
  split
  · rename_i e; rw [if_pos e] at h; obtain ⟨cs, h1, h2⟩ := h; exact ⟨cs, h1, h2.any hn⟩
  · rename_i e; rw [if_neg e] at h; exact h.any hn
theorem ArgR.any {w w' : World} {ok ok' : Nat → Prop} : ∀ {t : Ty} {x : Den t} {vs : List Value}, noSl t = true → ArgR w ok t x vs → ArgR w' ok' t x vs := by
  intro t
  induction t with
  | cons a b _ ihb =>
    intro x vs hn h
    simp only [noSl, Bool.and_eq_true] at hn
    obtain ⟨v, r, rfl, h1, h2⟩ := h
    exact ⟨v, r, rfl, h1.any hn.1, ihb hn.2 h2⟩
  | nil => intro x vs _ h; exact h
  | _ => intro x vs _ h; exact h
theorem ResR.any {w w' : World} {ok ok' : Nat → Prop} {t : Ty} {x : Den t} {v : Value} (hn : noSl t = true) (h : ResR w ok t x v) : ResR w' ok' t x v := by
  cases t with
  | cons a b =>
    cases b with
    | nil => simp only [noSl, Bool.and_eq_true] at hn; exact VRep.any hn.1 h
    | _ => obtain ⟨cs, rfl, h2⟩ := h; exact ⟨cs, rfl, h2.any hn⟩
  | _ => obtain ⟨cs, rfl, h2⟩ := h; exact ⟨cs, rfl, h2.any hn⟩
def conK (E : Env) (f : FuncId) (avs : List AV) (h : Hp) (R : Type) (K : AV → Hp → Option R) : Option R :=
  match look E.con f with
  | some k => (match takeA h k.ps avs with
    | some (x, h') => (k.F x).bind fun r => K (resAV k.rs r) (if noSl k.rs = true then h else h')
    | none => none)
  | none => none
theorem conK_ok {E : Env} {P : Program} (hC : ∀ f k, look E.con f = some k → Sat P E.gl f k) {f : FuncId} {avs : List AV} {h : Hp} {R : Type} {K : AV → Hp → Option R} {r : R} (hk : conK E f avs h R K = some r)
    {c : Cx} {vs : List Value} {Q : Value → World → Prop} (ho : c.Ok E) (hh : c.objs = h.objs) (ha : AVs c avs vs)
    (hn : ∀ av h' c' v, K av h' = some r → c'.objs = h'.objs → c'.Ok E → c.Evol c' → h.Agr h' → AVL c' av [v] → Q v c'.w) :
    (callFunc f vs.toArray).run P c.w = .ok (.enter f vs.toArray) c.w ∧ Calls P f vs.toArray c.w (fun | .returned v, w' => Q v w' | _, _ => False) := by
  unfold conK at hk
  split at hk
  · rename_i k hl
    split at hk
    · rename_i x h' ht
      obtain ⟨y, hy, hK⟩ := Option.bind_eq_some_iff.1 hk
      obtain ⟨k1, k2, k3, k4⟩ := takeA_ok ho hh ht ha
      have hsat := hC f k hl c.w (c.at h').okb x vs y (fun b hb => hb.2.1) k1.glob k4 hy
      refine ⟨hsat.1, hsat.2.mono fun e w' he => ?_⟩
      cases e with
      | returned v =>
        obtain ⟨q1, q2, q3, q4, q5, q6⟩ := he
        by_cases hns : noSl k.rs = true
        · rw [if_pos hns] at hK
          obtain ⟨g1, g2⟩ := Cx.grow ho w' q3 q4 q5 q1 q2
          exact hn _ h { c with w := w' } v hK hh g1 g2 (Hp.Agr.refl h) (resAV_ok (q6.any hns))
        rw [if_neg hns] at hK
        obtain ⟨g1, g2⟩ := Cx.grow k1 w' q3 q4 q5 q1 q2
        refine hn _ h' { c.at h' with w := w' } v hK rfl g1 (k2.trans g2) k3 (resAV_ok (q6.mono fun b hb => ⟨rfl, ?_⟩))
        rcases hb with hb | ⟨hb1, hb2⟩
        · exact (g2.okb b hb).2
        · refine ⟨.inr (Nat.le_trans k1.base hb1), hb2, fun o hm hbo => ?_⟩
          have := (k1.high o b hm hbo).2
          have : b < c.w.heap.size := this
          omega
      | panicked ch => exact he.elim
      | outgrown => exact he.elim
    · cases hk
  · cases hk

/-- The results that a function hands back. -/
def resL (E : Env) (tm : List AV) : List ResultVar → Hp → Option (List AV × Hp)
  | [], h => some ([], h)
  | .tmp t :: r, h => (resL E tm r h).map fun q => (tm.getD t .top :: q.1, q.2)
  | .cell a t :: r, h => match oLoad E h t (tm.getD a .top) with
    | some (_, av, h1) => (resL E tm r h1).map fun q => (av :: q.1, q.2)
    | none => none
def resM (tmps : Array Value) : ResultVar → Sem Value
  | .tmp t => pure (tmps.getD t undef)
  | .cell a t => do loadVar t (← asAddr (tmps.getD a undef))
theorem resL_ok {E : Env} {tm : List AV} {tmps : Array Value} : ∀ {l : List ResultVar} {c : Cx} {h h' : Hp} {avs : List AV}, E.Ok c.P → c.Ok E → c.objs = h.objs → (∀ i, AVL c (tm.getD i .top) [tmps.getD i undef]) →
    resL E tm l h = some (avs, h') → ∃ c' vs, (l.mapM (resM tmps)).run c.P c.w = .ok vs c.w ∧ c'.w = c.w ∧ c'.objs = h'.objs ∧ c'.Ok E ∧ c.Evol c' ∧ h.Agr h' ∧ AVs c' avs vs := by
  intro l
  induction l with
  | nil =>
    intro c h h' avs _ ho hh _ hr
    simp only [resL] at hr
    cases hr
    exact ⟨c, [], rfl, rfl, hh, ho, Cx.Evol.refl c, Hp.Agr.refl _, .nil⟩
  | cons y l ih =>
    intro c h h' avs hE ho hh hav hr
    cases y with
    | tmp t =>
      simp only [resL] at hr
      obtain ⟨q, hq, he⟩ := Option.map_eq_some_iff.1 hr
      cases he
      obtain ⟨c', vs, h1, h0, h2, h3, h4, h5, h6⟩ := ih (avs := q.1) (h' := q.2) hE ho hh hav hq
      refine ⟨c', _ :: vs, ?_, h0, h2, h3, h4, h5, .cons ((hav t).evol h4) h6⟩
      simp only [List.mapM_cons, resM, Sem.run_bind, Sem.run_pure, Result.andThen_ok, h1]
    | cell a t =>
      simp only [resL] at hr
      split at hr
      · rename_i g av h1 hl
        obtain ⟨q, hq, he⟩ := Option.map_eq_some_iff.1 hr
        cases he
        obtain ⟨v, r1, c1, r2, r3, r4, r5, r6, r7⟩ := oLoad_run hE ho hh hl (hav a)
        obtain ⟨c', vs, k1, k0, k2, k3, k4, k5, k6⟩ := ih (c := c1) (avs := q.1) (h' := q.2) (by rw [r5.P]; exact hE) r4 r3 (fun i => (hav i).evol r5) hq
        have hload : (resM tmps (.cell a t)).run c.P c.w = .ok v c.w := by
          cases hu : tmps.getD a undef with
          | pointer p =>
            cases p with
            | some p =>
              rw [hu] at r1
              simp only [Instr.loadAt, Instr.sureAddr, Sem.run_bind, Sem.run_pure, Result.andThen_ok] at r1
              simp only [resM, hu, asAddr, Sem.run_bind, Sem.run_pure, Result.andThen_ok, r1]
            | none => rw [hu] at r1; simp [Instr.loadAt, Instr.sureAddr] at r1
          | _ => rw [hu] at r1; simp [Instr.loadAt, Instr.sureAddr] at r1
        rw [r5.P, r2] at k1
        refine ⟨c', v :: vs, ?_, k0.trans r2, k2, k3, r5.trans k4, r6.trans k5, .cons (r7.evol k4) k6⟩
        simp only [List.mapM_cons, Sem.run_bind]
        rw [hload]
        simp only [Result.andThen_ok, k1, Sem.run_pure]
      · cases hr
def resV : List Value → Value
  | [v] => v
  | vs => .tuple vs.toArray
theorem run_results {fn : Func} {tmps : Array Value} {P : Program} {w w' : World} {vs : List Value} (h : (fn.results.toList.mapM (resM tmps)).run P w = .ok vs w') : (results fn tmps).run P w = .ok (resV vs) w' := by
  have e : results fn tmps = (do let vs ← fn.results.mapM (resM tmps); pure (if h : vs.size = 1 then vs[0] else .tuple vs)) := rfl
  rw [e, Array.mapM_eq_mapM_toList]
  simp only [map_eq_pure_bind, Sem.run_bind]
  rw [h]
  simp only [Result.andThen_ok, Sem.run_pure]
  match vs with
  | [] => simp [resV]
  | [v] => simp [resV]
  | v :: u :: r => simp [resV]
end Go.Sy
namespace Go.Sy
open Go Go.RowKit Go.Lib

def prL : List AV → AV
  | [] => .un
  | a :: r => .pr a (prL r)
def resA : List AV → AV
  | [a] => a
  | l => .tup (prL l)
theorem prL_ok {c : Cx} {as : List AV} {vs : List Value} (h : AVs c as vs) : AVL c (prL as) vs := by
  induction h with
  | nil => rfl
  | cons h1 _ ih => exact ⟨_, _, rfl, h1, ih⟩
theorem resA_ok {c : Cx} {as : List AV} {vs : List Value} (h : AVs c as vs) : AVL c (resA as) [resV vs] := by
  cases h with
  | nil => exact ⟨[], rfl, rfl⟩
  | cons h1 h2 =>
    cases h2 with
    | nil => exact h1
    | cons h3 h4 => exact ⟨_, rfl, prL_ok (.cons h1 (.cons h3 h4))⟩
def st0 (fn : Func) (avs : List AV) (h : Hp) : St := ⟨avs ++ List.replicate (fn.ntmps - avs.length) .top, h, []⟩
theorem AVs.length {c : Cx} {as : List AV} {vs : List Value} (h : AVs c as vs) : as.length = vs.length := by
  induction h with
  | nil => rfl
  | cons _ _ ih => simp [ih]
theorem AVs.get {c : Cx} {as : List AV} {vs : List Value} (h : AVs c as vs) : ∀ i : Nat, i < as.length → AVL c (as.getD i .top) [vs.getD i undef] := by
  induction h with
  | nil => intro i hi; simp at hi
  | cons h1 _ ih =>
    intro i hi
    cases i with
    | zero => exact h1
    | succ i => simp only [List.getD_cons_succ]; exact ih i (by simpa using hi)
theorem st0_ok {E : Env} {c : Cx} {fn : Func} {avs : List AV} {h : Hp} {vs : List Value} (ho : c.Ok E) (hh : c.objs = h.objs) (ha : AVs c avs vs) :
    Sm E c (st0 fn avs h) { tmps := vs.toArray ++ Array.replicate (fn.ntmps - vs.toArray.size) undef, defers := [] } := by
  have hl := ha.length
  refine ⟨ho, hh, by simp [st0, hl], fun i => ?_, rfl⟩
  show AVL c ((avs ++ List.replicate (fn.ntmps - avs.length) AV.top).getD i .top) [(vs.toArray ++ Array.replicate (fn.ntmps - vs.toArray.size) undef).getD i undef]
  rcases Nat.lt_or_ge i avs.length with hi | hi
  · have e1 : (avs ++ List.replicate (fn.ntmps - avs.length) AV.top).getD i .top = avs.getD i .top := by
      simp only [List.getD_eq_getElem?_getD]; rw [List.getElem?_append_left hi]
    have e2 : (vs.toArray ++ Array.replicate (fn.ntmps - vs.toArray.size) undef).getD i undef = vs.getD i undef := by
      rw [Array.getD_eq_getD_getElem?, Array.getElem?_append_left (by simp; omega), List.getD_eq_getElem?_getD]; simp
    rw [e1, e2]; exact ha.get i hi
  · have e1 : (avs ++ List.replicate (fn.ntmps - avs.length) AV.top).getD i .top = .top := by
      simp only [List.getD_eq_getElem?_getD]
      rw [List.getElem?_append_right hi, List.getElem?_replicate]
      split <;> rfl
    rw [e1]; exact ⟨_, rfl⟩
/-- What a function's end hands on. -/
def endK (E : Env) (fn : Func) {R : Type} (K : List AV → Hp → Option R) (e : Exit) (s : St) : Option R :=
  match e with
  | .normal | .ret => (match resL E s.tm fn.results.toList s.hp with
    | some (avs, h') => K avs h'
    | none => none)
  | _ => none
theorem endK_ok {E : Env} {fn : Func} {R : Type} {K : List AV → Hp → Option R} {r : R} {e : Exit} {s : St} (hk : endK E fn K e s = some r) {c : Cx} {a : Act} (hE : E.Ok c.P) (hs : Sm E c s a) {Q : Value → World → Prop}
    (hn : ∀ avs h' c' vs, K avs h' = some r → c'.w = c.w → c'.objs = h'.objs → c'.Ok E → c.Evol c' → s.hp.Agr h' → AVs c' avs vs → Q (resV vs) c.w) : bodyPost c.P fn (fun | .returned v, w' => Q v w' | _, _ => False) e a c.w := by
  have key : (match resL E s.tm fn.results.toList s.hp with
    | some (avs, h') => K avs h'
    | none => none) = some r → a.defers = [] ∧ ∃ v, (results fn a.tmps).run c.P c.w = .ok v c.w ∧ Q v c.w := by
    intro hk
    split at hk
    · rename_i avs h' hr
      obtain ⟨c', vs, h1, h0, h2, h3, h4, h5, h6⟩ := resL_ok hE hs.ok hs.objs hs.av hr
      exact ⟨hs.defers, _, run_results h1, hn avs h' c' vs hk h0 h2 h3 h4 h5 h6⟩
    · cases hk
  cases e with
  | normal => exact key hk
  | ret => exact key hk
  | _ => cases hk
theorem run_enter {P : Program} {f : FuncId} {fn : Func} {c : Code} (hf : P.funcs[f]? = some fn) (hname : (fn.name == "runtime.NumGoroutine") = false) (hb : fn.body = some c) (args : Array Value) (w : World) :
    (callFunc f args).run P w = .ok (.enter f args) w := by
  have hn : fn.name ≠ "runtime.NumGoroutine" := by simpa using hname
  simp [callFunc, hf, hn, hb]
end Go.Sy
namespace Go.Sy
open Go Go.RowKit Go.Lib

def clH (h : Hp) (e : TypeId) (u : Ty) (l : List (Den u)) : Hp := (h.set h.objs.length .dead).set (h.objs.length + 1) (.row e u l true)
/-- slices.Clone: a new row. -/
def cloneK (E : Env) (t : TypeId) (avs : List AV) (h : Hp) (R : Type) (K : AV → Hp → Option R) : Option R :=
  match look E.ty t, look E.sl t, avs with
  | some (.sl u, _), some (e, n), [av] => if Nat.beq u.size 0 = true then none else (match rdT h u av with
    | some l => if (room (l.length * n) && room l.length) = true then K (.rsl (h.objs.length + 1)) (clH h e u l) else none
    | none => none)
  | _, _, _ => none
theorem setX_new {l : List Ob} {x : Ob} : setX l l.length x = l ++ [x] := by unfold setX; rw [if_neg (by omega)]
theorem setX_end {l : List Ob} {x y : Ob} : setX (l ++ [x]) l.length y = l ++ [y] := by unfold setX; rw [if_pos (by simp)]; simp
theorem clH_objs {h : Hp} {e : TypeId} {u : Ty} {l : List (Den u)} : (clH h e u l).objs = h.objs ++ [.dead, .row e u l true] := by
  show setX (setX h.objs h.objs.length .dead) (h.objs.length + 1) _ = _
  rw [setX_new]
  have : h.objs.length + 1 = (h.objs ++ [Ob.dead]).length := by simp
  rw [this, setX_new]; simp
theorem clH_agr {h : Hp} {e : TypeId} {u : Ty} {l : List (Den u)} : h.Agr (clH h e u l) :=
  (Hp.Agr.set h _ _ (Nat.le_refl _)).trans (Hp.Agr.set _ _ _ (by show _ ≤ (setX h.objs h.objs.length .dead).length; rw [setX_new]; simp))
theorem Ty.beq_refl : ∀ a : Ty, Ty.beq a a = true := by
  intro a
  induction a with
  | int k => cases k <;> rfl
  | arr n t ih => simp [Ty.beq, ih]
  | sl t ih => exact ih
  | cons a b iha ihb => simp [Ty.beq, iha, ihb]
  | _ => rfl
theorem castD_id {a : Ty} (h : Ty.beq a a = true) (x : Den a) : castD h x = x := rfl
theorem get_end {h : Hp} : h.get h.objs.length = .free := by unfold Hp.get; rw [List.getD_eq_getElem?_getD, List.getElem?_eq_none (Nat.le_refl _)]; rfl
theorem step_ok {E : Env} {P : Program} {H : Hd} (hE : E.Ok P) (hH : HOk E P H) {id : Nat} {ops : Array Oper} {st st1 : St} (hk : opsS E H ops (List.range ops.size) st St (fun s => some s) = some st1)
    {c : Cx} {a : Act} {Q : Exit → Act → World → Prop} (hP : c.P = P) (hs : Sm E c st a) (hn : ∀ c' a', Sm E c' st1 a' → Gone c st a c' st1 a' → Q .normal a' c'.w) : (Code.region id ops false).wp P Q a c.w :=
  wp_region (opsS_ok hE hH hk hP hs fun st' c' a' h1 h2 h3 => by cases h1; exact hn c' a' h2 h3)
theorem wpOps_one {P : Program} {ops : Array Oper} {Q : Exit → Act → World → Prop} {i : Nat} {l : List Nat} {a : Act} {w : World} {o : Oper} (h : ops[i]? = some o) (hg : o.guard = none)
    (hw : o.wp P a w (wpOps P ops Q l) Q) : wpOps P ops Q (i :: l) a w := by
  unfold wpOps
  rw [h]
  simp only
  rw [if_pos (by simp [Region.wanted, hg])]
  exact .inl hw
theorem wp_val {P : Program} {o : Oper} {a : Act} {w : World} {next : Act → World → Prop} {Q : Exit → Act → World → Prop} {v : Value} (h : (execOp a.eval o).run P w = .ok (.value v) w) (hn : next (a.put o.dst v) w) :
    o.wp P a w next Q := by unfold Oper.wp; rw [h]; exact hn
theorem rdT_set {h : Hp} {u : Ty} {av : AV} {l : List (Den u)} {n : Nat} {ob : Ob} (hr : rdT h u av = some l) (hn : n = h.objs.length) : rdT (h.set n ob) u av = some l := by
  subst hn
  cases av with
  | rsl o =>
    have : (h.set h.objs.length ob).get o = h.get o := by
      unfold Hp.get Hp.set
      simp only
      rw [getD_setX (Nat.le_refl _), if_neg]
      intro e
      rw [e] at hr
      have hr : (match h.get h.objs.length with
        | .row _ t l _ => if hb : Ty.beq t u = true then some (castD (a := .sl t) (b := .sl u) hb l) else none
        | _ => none) = some l := hr
      rw [get_end] at hr; cases hr
    have e : rdT (h.set h.objs.length ob) u (.rsl o) = (match (h.set h.objs.length ob).get o with
        | .row _ t l _ => if hb : Ty.beq t u = true then some (castD (a := .sl t) (b := .sl u) hb l) else none
        | _ => none) := rfl
    rw [e, this]; exact hr
  | v s x => cases s <;> first | exact hr | cases hr
  | bv s x => exact hr
  | nils => exact hr
  | _ => cases hr
theorem clone_ok {E : Env} {P : Program} {f : FuncId} {t : TypeId} (hE : E.Ok P) (hf : CloneFn P f t) {avs : List AV} {h : Hp} {R : Type} {K : AV → Hp → Option R} {r : R} (hk : cloneK E t avs h R K = some r)
    {c : Cx} {vs : List Value} {Q : Value → World → Prop} (hP : c.P = P) (ho : c.Ok E) (hh : c.objs = h.objs) (ha : AVs c avs vs)
    (hn : ∀ av h' c' v, K av h' = some r → c'.objs = h'.objs → c'.Ok E → c.Evol c' → h.Agr h' → AVL c' av [v] → Q v c'.w) :
    (callFunc f vs.toArray).run P c.w = .ok (.enter f vs.toArray) c.w ∧ Calls P f vs.toArray c.w (fun | .returned v, w' => Q v w' | _, _ => False) := by
  subst hP
  unfold cloneK at hk
  split at hk
  · rename_i u nb e n av hty hsl
    split at hk
    · cases hk
    · rename_i hz
      split at hk
      · rename_i l hrd
        split at hk
        · rename_i hroom
          rw [Bool.and_eq_true] at hroom
          cases ha with
          | cons h1 h2 =>
          cases h2
          rename_i v
          obtain ⟨fn, code, f1, f2, hb, hcc, hnt, hres⟩ := hf.ok
          have hu := (hE.sl t e n hsl).1
          -- the end
          have fin : ∀ (c' : Cx) (a' : Act) (v' : Value), a'.defers = [] → a'.tmps.getD 2 undef = v' → c'.objs = (clH h e u l).objs → c'.Ok E → c.Evol c' → AVL c' (.rsl (h.objs.length + 1)) [v'] →
              bodyPost c.P fn (fun | .returned v, w' => Q v w' | _, _ => False) .ret a' c'.w := by
            intro c' a' v' hd ht k1 k2 k3 k4
            refine ⟨hd, v', ?_, hn _ _ c' v' hk k1 k2 k3 clH_agr k4⟩
            have : (fn.results.toList.mapM (resM a'.tmps)).run c.P c'.w = .ok [v'] c'.w := by
              rw [hres]
              simp only [List.mapM_cons, List.mapM_nil, resM, Sem.run_bind, Sem.run_pure, Result.andThen_ok, ht]
            exact run_results this
          let H : Hd := fun _ _ _ _ _ => none
          have hH : HOk E c.P H := fun _ _ _ _ _ _ h => by cases h
          refine ⟨run_enter f1 f2 hb _ c.w, calls_of_wp f1 hb ?_⟩
          have hs0 := st0_ok (fn := fn) ho hh (AVs.cons h1 .nil)
          have htm : (st0 fn [av] h) = ⟨[av, .top, .top, .top, .top, .top, .top, .top], h, []⟩ := by simp [st0, hnt]
          rw [htm] at hs0
          cases hcc with
          | mk i0 i1 i2 i3 y0 y1 y2 y3 y4 y5 y6 y7 yx p0 p1 p2 p3 p4 p5 p6 p7 a0 a1 a2 a3 a4 a5 a6 a7 =>
          refine wp_seq (step_ok (st1 := ⟨[av, .top, .nils, .top, .top, .top, .top, .top], h, [2]⟩) hE hH (by rfl) rfl hs0 fun c1 b1 s1 g1 => ?_)
          have hP1 : c1.P = c.P := g1.evol.P
          have hav1 : AVL c1 av [b1.tmps.getD 0 undef] := s1.av 0
          obtain ⟨ptr, cap, hv, hcap, hx⟩ := rdT_ok s1.ok s1.objs hrd hav1
          have hnil : (Go.binOp .eql t (b1.tmps.getD 0 undef) (.slice none 0 0)).run c.P c1.w = .ok (.bool ptr.isNone) c1.w := by
            rw [hv]; exact run_eql_slice_nil _ _ _ _ _ _ hu
          have hg0 : (eqGuard .eql t (.tmp 3) (.const (.slice none 0 0)) (b1.tmps.getD 0 undef) (.slice none 0 0)).run c.P c1.w = .ok () c1.w := by rw [hv]; rfl
          have hsz : b1.tmps.size = 8 := s1.size
          -- the two operations of the test
          refine wp_seq (wp_seq (wp_region ?_))
          show wpOps c.P _ _ [0, 1] b1 c1.w
          refine wpOps_one (o := ⟨some 3, .move (.tmp 0), y1, p1, a1, none⟩) rfl rfl (wp_val (v := b1.tmps.getD 0 undef) rfl ?_)
          have hs2 := (s1.put (dst := some 3) (av := .top) (v := b1.tmps.getD 0 undef) s1.ok s1.objs (Cx.Evol.refl c1) (Hp.Agr.refl _) ⟨_, rfl⟩).1
          have h3 : (b1.put (some 3) (b1.tmps.getD 0 undef)).tmps.getD 3 undef = b1.tmps.getD 0 undef := by
            show (b1.tmps.setIfInBounds 3 (b1.tmps.getD 0 undef)).getD 3 undef = _
            rw [getD_setIfInBounds, if_pos ⟨rfl, by omega⟩]
          refine wpOps_one (o := ⟨some 4, .binOp .eql t (.tmp 3) (.const (.slice none 0 0)) yx, y2, p2, a2, none⟩) rfl rfl (wp_val (v := .bool ptr.isNone) ?_ ?_)
          · show (do pure (Next.value (← (do eqGuard .eql t (.tmp 3) (.const (.slice none 0 0)) ((b1.put (some 3) (b1.tmps.getD 0 undef)).tmps.getD 3 undef) (.slice none 0 0); Go.binOp .eql t ((b1.put (some 3) (b1.tmps.getD 0 undef)).tmps.getD 3 undef) (.slice none 0 0)))) : Sem Next).run c.P c1.w = _
            rw [h3]
            simp only [Sem.run_bind, hg0, hnil, Result.andThen_ok, Sem.run_pure]
          have hs3 := (hs2.put (dst := some 4) (av := .kb ptr.isNone) (v := .bool ptr.isNone) hs2.ok hs2.objs (Cx.Evol.refl c1) (Hp.Agr.refl _) rfl).1
          show (Code.cond (.tmp 4) _ _).wp _ _ _ _
          have hcv : ((b1.put (some 3) (b1.tmps.getD 0 undef)).put (some 4) (.bool ptr.isNone)).eval (.tmp 4) = .bool ptr.isNone := by
            have := hs3.av 4
            have h5 : [((b1.put (some 3) (b1.tmps.getD 0 undef)).put (some 4) (.bool ptr.isNone)).tmps.getD 4 undef] = [Value.bool ptr.isNone] := this
            exact (List.cons.inj h5).1
          refine wp_cond hcv ?_
          cases ptr with
          | none =>
            show Code.wp _ _ _ _ _
            refine wp_seq (step_ok (st1 := ⟨[av, .top, .nils, .top, .kb true, .top, .top, .top], h, [2, 4, 3, 2]⟩) hE hH (by rfl) hP1 hs3 fun c2 b2 s2 g2 => ?_)
            refine wp_ret ?_
            have hl : l = [] := by
              rcases hx with hx | ⟨b, o, hx, _⟩
              · exact hx
              · cases hx
            subst hl
            have hv2 : b2.tmps.getD 2 undef = .slice none 0 0 := by
              have : [b2.tmps.getD 2 undef] = [Value.slice none 0 0] := s2.av 2
              simpa using this
            have hh2 : c2.objs = h.objs := s2.objs
            obtain ⟨c3, w1, w2, w3, w4, w5⟩ := Cx.new s2.ok h.objs.length (by rw [hh2]; exact Nat.le_refl _) (by rw [hh2]; exact get_end) .dead (.slice none 0 0) c2.w rfl rfl rfl (Nat.le_refl _) (fun _ _ => rfl)
              (fun b hb => by simp [blkOf] at hb) (fun _ _ _ => trivial) (fun _ _ _ he => by cases he)
            have hh3 : c3.objs = (h.set h.objs.length .dead).objs := by rw [w2, hh2]; rfl
            have hlen : (h.set h.objs.length .dead).objs.length = h.objs.length + 1 := by
              show (setX h.objs h.objs.length .dead).length = _; rw [setX_new]; simp
            obtain ⟨c4, x1, x2, x3, x4, x5, x6⟩ := row_new (nid := h.objs.length + 1) w4 hh3 (by rw [hlen]; exact Nat.le_refl _) (by rw [← hlen]; exact get_end) e u [] (.slice none 0 0) c3.w rfl rfl rfl (Nat.le_refl _) (fun _ _ => rfl)
              (fun b hb => by simp [blkOf] at hb) rfl (fun _ _ _ => .inl ⟨none, rfl, rfl⟩)
            have := fin c4 b2 _ s2.defers hv2 x2 x3 ((g1.evol.trans g2.evol).trans (w5.trans x4)) x6
            rw [x1, w1] at this
            exact this
          | some ptr =>
            show Code.wp _ _ _ _ _
            refine wp_skip ?_
            show Code.wp _ _ _ _ _
            have hb1 : oBuildSlice E h h.objs.length t 0 (evO E [av, .top, .nils, .top, .kb false, .top, .top, .top]) [] = some (true, .rsl h.objs.length, h.set h.objs.length (.row e u [] true)) := by
              unfold oBuildSlice
              rw [hty, hsl]
              have hk : okNid h h.objs.length = true := by simp [okNid, get_end, Ob.isFree]
              simp [arParts, buildP, hk]
            have hlen : (h.set h.objs.length (.row e u [] true)).objs.length = h.objs.length + 1 := by
              show (setX h.objs h.objs.length _).length = _; rw [setX_new]; simp
            have hrd1 : rdT (h.set h.objs.length (.row e u [] true)) u av = some l := rdT_set hrd rfl
            have hget : (h.set h.objs.length (.row e u [] true)).get h.objs.length = .row e u [] true := by
              show (setX h.objs h.objs.length _).getD _ _ = _; rw [getD_setX (Nat.le_refl _), if_pos rfl]
            have ha1 : oAppend E (h.set h.objs.length (.row e u [] true)) (h.objs.length + 1) t t (.rsl h.objs.length) av =
                some (true, .rsl (h.objs.length + 1), ((h.set h.objs.length (.row e u [] true)).set h.objs.length .dead).set (h.objs.length + 1) (.row e u l true)) := by
              unfold oAppend
              rw [hty, hsl]
              have hk : okNid (h.set h.objs.length (.row e u [] true)) (h.objs.length + 1) = true := by
                rw [← hlen]; simp [okNid, get_end, Ob.isFree]
              have hz' : Nat.beq u.size 0 = false := by cases hq : Nat.beq u.size 0 with | false => rfl | true => exact absurd hq hz
              simp only [hz', srcL, Nat.beq_refl, hrd1, hget, hk, Option.map_some, if_true, Ty.beq_refl, dif_pos]
              have hne : Nat.beq h.objs.length (h.objs.length + 1) = false := by
                cases hx : Nat.beq h.objs.length (h.objs.length + 1) with
                | false => rfl
                | true => have := Nat.eq_of_beq_eq_true hx; omega
              have r1 := hroom.1
              have r2 := hroom.2
              simp [hne, r1, r2]
              rfl
            refine wp_seq (step_ok (st1 := ⟨[av, .top, .rsl (h.objs.length + 1), .top, .kb false, .rsl h.objs.length, av, .rsl (h.objs.length + 1)], ((h.set h.objs.length (.row e u [] true)).set h.objs.length .dead).set (h.objs.length + 1) (.row e u l true), [2, 7, 6, 5, 4, 3, 2]⟩) hE hH ?_ hP1 hs3 fun c2 b2 s2 g2 => ?_)
            · show opsS E H _ [0, 1, 2, 3] _ _ _ = _
              simp [opsS, gst, opK, opV, oBuiltin, St.put, hb1, hlen, evO, ha1]
              done
            · refine wp_ret ?_
              have hh4 : c2.objs = (clH h e u l).objs := by
                rw [s2.objs, clH_objs]
                show setX (setX (setX h.objs h.objs.length _) h.objs.length .dead) (h.objs.length + 1) _ = _
                rw [setX_new, setX_end]
                have : h.objs.length + 1 = (h.objs ++ [Ob.dead]).length := by simp
                rw [this, setX_new]; simp
              exact fin c2 b2 _ s2.defers rfl hh4 s2.ok (g1.evol.trans g2.evol) (s2.av 2)
        · cases hk
      · cases hk
  · cases hk
end Go.Sy
namespace Go.Sy
open Go Go.RowKit Go.Lib

/-- How calls are carried on: by contract, or by the function's own code (n deep). -/
noncomputable def inl (E : Env) (D : Hd → Dr) (an : FuncId → Nat → Ann) : Nat → Hd
  | 0, f, avs, h, R, K => conK E f avs h R K
  | n + 1, f, avs, h, R, K => match look E.con f with
    | some _ => conK E f avs h R K
    | none => match look E.cln f with
     | some t => cloneK E t avs h R K
     | none => match look E.fns f with
      | some fn => (match fn.body with
        | some code => symC E (inl E D an n) (D (inl E D an n)) code (an f h.objs.length) (st0 fn avs h) R (endK E fn fun avs h' => K (resA avs) h')
        | none => none)
      | none => none
theorem inl_ok {E : Env} {P : Program} {D : Hd → Dr} {an : FuncId → Nat → Ann} (hE : E.Ok P) (hC : ∀ f k, look E.con f = some k → Sat P E.gl f k) (hD : ∀ H, HOk E P H → DOk E P (D H)) : ∀ n, HOk E P (inl E D an n) := by
  intro n
  induction n with
  | zero => intro f avs h R K r hk c vs Q hP ho hh ha hn; subst hP; exact conK_ok hC hk ho hh ha hn
  | succ n ih =>
    intro f avs h R K r hk c vs Q hP ho hh ha hn
    subst hP
    unfold inl at hk
    split at hk
    · exact conK_ok hC hk ho hh ha hn
    split at hk
    · rename_i t ht; exact clone_ok hE (hE.cln f t ht) hk rfl ho hh ha hn
    · split at hk
      · rename_i fn hf
        split at hk
        · rename_i code hb
          obtain ⟨f1, f2⟩ := hE.fns f fn hf
          refine ⟨run_enter f1 f2 hb _ c.w, calls_of_wp f1 hb ?_⟩
          refine symC_ok hE ih (hD _ ih) hk rfl (st0_ok ho hh ha) fun e s c1 a1 k1 k2 k3 => ?_
          rw [← k3.evol.P]
          refine endK_ok k1 (by rw [k3.evol.P]; exact hE) k2 fun avs h' c' vs q1 q0 q2 q3 q4 q5 q6 => ?_
          rw [← q0]
          exact hn _ h' c' _ q1 q2 q3 (k3.evol.trans q4) (k3.agr.trans q5) (resA_ok q6)
        · cases hk
      · cases hk
/-- What a function computes. -/
noncomputable def symF (E : Env) (H : Hd) (D : Dr) (an : Ann) (fn : Func) (ps rs : Ty) (x : Den ps) : Option (Den rs) :=
  match fn.body with
  | some code => symC E H D code an (st0 fn (argAV ps x) ⟨[], []⟩) (Den rs) (endK E fn fun avs h' => (takeA h' rs avs).map (·.1))
  | none => none
theorem resR_of {w : World} {ok : Nat → Prop} : ∀ {t : Ty} {x : Den t} {vs : List Value}, ArgR w ok t x vs → ResR w ok t x (resV vs) := by
  intro t x vs h
  cases t with
  | cons a b =>
    obtain ⟨v, r, rfl, h1, h2⟩ := h
    cases b with
    | nil => have h2 : r = [] := h2; subst h2; exact h1
    | cons a' b' => obtain ⟨v', r', rfl, h3, h4⟩ := h2; exact ⟨_, rfl, v, _, rfl, h1, v', r', rfl, h3, h4⟩
    | _ => exact h2.elim
  | nil => have h : vs = [] := h; subst h; exact ⟨[], rfl, rfl⟩
  | _ => exact h.elim
theorem symF_ok {E : Env} {P : Program} {H : Hd} {D : Dr} (hE : E.Ok P) (hH : HOk E P H) (hD : DOk E P D) {f : FuncId} {fn : Func} {an : Ann} {ps rs : Ty} (hf : look E.fns f = some fn) :
    Sat P E.gl f ⟨ps, rs, false, symF E H D an fn ps rs⟩ := by
  intro w ok x vs r hlow hgl hargs hF
  unfold symF at hF
  have hF : (match fn.body with
    | some code => symC E H D code an (st0 fn (argAV ps x) ⟨[], []⟩) (Den rs) (endK E fn fun avs h' => (takeA h' rs avs).map (·.1))
    | none => none) = some r := hF
  split at hF
  · rename_i code hb
    obtain ⟨f1, f2⟩ := hE.fns f fn hf
    let c0 : Cx := ⟨P, [], fun _ => undef, w, ok, w.heap.size⟩
    have hok : ∀ b, ok b → c0.okb b := fun b hb => ⟨.inl hb, hlow b hb, fun o hm => by cases hm⟩
    have h0 : c0.Ok E := by
      refine ⟨Nat.le_refl _, hlow, fun o => trivial, (fun o o' _ hm => by cases hm), (fun o b hm => by cases hm), (fun o e t l hm => by cases hm), fun g x hg => ?_⟩
      obtain ⟨ds, g1, g2, g3⟩ := hgl g x hg
      exact ⟨ds, g1, g2.mono fun b hb => ⟨rfl, hok b hb⟩, hok g g3⟩
    have ha : AVs c0 (argAV ps x) vs := argAV_ok (c := c0) (ArgR.mono (fun b hb => ⟨rfl, hok b hb⟩) hargs)
    refine ⟨run_enter f1 f2 hb _ w, calls_of_wp f1 hb ?_⟩
    refine symC_ok (c := c0) hE hH hD hF rfl (st0_ok h0 rfl ha) fun e s c1 a1 k1 k2 k3 => ?_
    have hP : c1.P = P := k3.evol.P
    rw [← hP]
    have := endK_ok (Q := fun v w' => w.heap.size ≤ w'.heap.size ∧ (∀ b, b < w.heap.size → w'.heap[b]? = w.heap[b]?) ∧ w'.os = w.os ∧ w'.tape = w.tape ∧ w'.output = w.output ∧
          ResR w' (fun b => ok b ∨ (w.heap.size ≤ b ∧ b < w'.heap.size)) rs r v) k1 (by rw [hP]; exact hE) k2 (fun avs h' c' vs q1 q0 q2 q3 q4 q5 q6 => by
      obtain ⟨⟨y, h2⟩, hy, he⟩ := Option.map_eq_some_iff.1 q1
      have he : y = r := he
      subst he
      obtain ⟨p1, p2, p3, p4⟩ := takeA_ok q3 q2 hy q6
      rw [q0] at p4
      refine ⟨k3.evol.size, fun b hb => (k3.evol.okr b ⟨hb, fun o hm => by cases hm⟩).1, k3.evol.os, k3.evol.tape, k3.evol.output, resR_of (p4.mono fun b hb => ⟨rfl, ?_⟩)⟩
      have e0 : c'.ok0 = ok := (k3.evol.trans q4).ok0
      have e1 : c'.base = w.heap.size := (k3.evol.trans q4).base
      have hb1 : c'.ok0 b ∨ c'.base ≤ b := hb.1
      have hb2 : b < c'.w.heap.size := hb.2.1
      rw [e0, e1] at hb1
      rw [q0] at hb2
      rcases hb1 with h3 | h3
      · exact .inl h3
      · exact .inr ⟨h3, hb2⟩)
    exact this
  · cases hF
end Go.Sy
namespace Go.Sy
open Go Go.RowKit Go.Lib

theorem ready_mem {ops : Array Oper} {listed : Array Bool} {i : Nat} (h : i ∈ Region.ready .any ops listed) : i < ops.size ∧ listed.getD i true = false ∧
    ∃ o, ops[i]? = some o ∧ ∀ e ∈ o.after.toList, Region.binds .any e = true → listed.getD e.on false = true := by
  unfold Region.ready at h
  rw [List.mem_filter] at h
  obtain ⟨h1, h2⟩ := h
  have h1 : i < ops.size := by simpa using h1
  rw [Bool.and_eq_true] at h2
  refine ⟨h1, by simpa using h2.1, ops[i], Array.getElem?_eq_getElem h1, fun e he hb => ?_⟩
  have h3 := h2.2
  rw [Array.getElem?_eq_getElem h1] at h3
  simp only [Option.map_some, Option.getD_some] at h3
  rw [Array.all_eq_true_iff_forall_mem] at h3
  have := h3 e (by simpa using he)
  rw [hb] at this
  simpa using this
theorem ready_nil {ops : Array Oper} {listed : Array Bool} (hs : listed.size = ops.size) (topo : ∀ (i : Nat) (o : Oper), ops[i]? = some o → ∀ e ∈ o.after.toList, Region.binds .any e = true → e.on < i)
    (h : Region.ready .any ops listed = []) : ∀ i, i < ops.size → listed.getD i true = true := by
  intro i
  induction i using Nat.strongRecOn with
  | _ i ih =>
    intro hi
    cases hl : listed.getD i true with
    | true => rfl
    | false =>
      exfalso
      have : i ∈ Region.ready .any ops listed := by
        unfold Region.ready
        rw [List.mem_filter]
        refine ⟨by simpa using hi, ?_⟩
        rw [Bool.and_eq_true]
        refine ⟨by rw [hl]; rfl, ?_⟩
        rw [Array.getElem?_eq_getElem hi]
        simp only [Option.map_some, Option.getD_some]
        rw [Array.all_eq_true_iff_forall_mem]
        intro e he
        cases hb : Region.binds .any e with
        | false => rfl
        | true =>
          have h1 := topo i _ (Array.getElem?_eq_getElem hi) e (by simpa using he) hb
          have h2 := ih e.on h1 (by omega)
          have h3 : e.on < listed.size := by omega
          rw [Array.getD_eq_getD_getElem?, Array.getElem?_eq_getElem h3] at h2 ⊢
          simpa using h2
      rw [h] at this
      cases this
theorem wpAny_inv {P : Program} {ops : Array Oper} {Q : Exit → Act → World → Prop} (I : Array Bool → Act → World → Prop)
    (topo : ∀ (i : Nat) (o : Oper), ops[i]? = some o → ∀ e ∈ o.after.toList, Region.binds .any e = true → e.on < i)
    (stp : ∀ (listed : Array Bool) (a : Act) (w : World) (i : Nat) (o : Oper), listed.size = ops.size → I listed a w → ops[i]? = some o → listed.getD i true = false →
      (∀ e ∈ o.after.toList, Region.binds .any e = true → listed.getD e.on false = true) → wpOp P ops Q i (I (listed.setIfInBounds i true)) a w)
    (don : ∀ (listed : Array Bool) (a : Act) (w : World), listed.size = ops.size → I listed a w → (∀ i, i < ops.size → listed.getD i true = true) → Q .normal a w) :
    ∀ (fuel : Nat) (listed : Array Bool) (a : Act) (w : World), listed.size = ops.size → listed.toList.count false ≤ fuel → I listed a w → wpAny P .any ops Q fuel listed a w := by
  intro fuel
  induction fuel with
  | zero =>
    intro listed a w hs hc hi
    have hnil : Region.ready .any ops listed = [] := by
      cases hr : Region.ready .any ops listed with
      | nil => rfl
      | cons i r =>
        exfalso
        obtain ⟨h1, h2, _⟩ := ready_mem (i := i) (by rw [hr]; exact List.mem_cons_self)
        have h3 : i < listed.size := by omega
        rw [Array.getD_eq_getD_getElem?, Array.getElem?_eq_getElem h3] at h2
        have h4 : false ∈ listed.toList := by
          have h2 : listed[i] = false := by simpa using h2
          rw [← h2]; simp
        have := List.count_pos_iff.2 h4
        omega
    exact ⟨hnil, don listed a w hs hi (ready_nil hs topo hnil)⟩
  | succ fuel ih =>
    intro listed a w hs hc hi
    refine ⟨fun hnil => don listed a w hs hi (ready_nil hs topo hnil), fun i hr => ?_⟩
    obtain ⟨h1, h2, o, ho, h3⟩ := ready_mem hr
    refine wpOp_mono (fun a' w' hI => ih _ a' w' (by simpa using hs) ?_ hI) (stp listed a w i o hs hi ho h2 h3)
    have h4 : i < listed.size := by omega
    have h5 : listed[i] = false := by rw [Array.getD_eq_getD_getElem?, Array.getElem?_eq_getElem h4] at h2; simpa using h2
    have h6 : (listed.setIfInBounds i true).toList = listed.toList.set i true := by simp
    rw [h6, List.count_set (by simpa using h4)]
    have h7 : false ∈ listed.toList := by rw [← h5]; simp
    have := List.count_pos_iff.2 h7
    have h8 : listed.toList[i]'(by simpa using h4) = false := by simpa using h5
    rw [h8, if_pos (by decide), if_neg (by decide)]
    omega

/-- What must go ahead of each operation: as bits. -/
def mk1 (acc : List Nat) : List Edge → Nat → Nat
  | [], s => s
  | e :: r, s => mk1 acc r (if Region.binds .any e then s ||| 2 ^ e.on ||| acc.getD e.on 0 else s)
def mkL : List Oper → List Nat → List Nat
  | [], acc => acc
  | o :: r, acc => mkL r (acc ++ [mk1 acc o.after.toList 0])
theorem mk1_bit {acc : List Nat} {j : Nat} : ∀ {es : List Edge} {s : Nat}, (mk1 acc es s).testBit j = true → s.testBit j = true ∨ ∃ e ∈ es, Region.binds .any e = true ∧ (e.on = j ∨ (acc.getD e.on 0).testBit j = true) := by
  intro es
  induction es with
  | nil => intro s h; exact .inl h
  | cons e r ih =>
    intro s h
    rcases ih h with h1 | ⟨e', h1, h2⟩
    · split at h1
      · rename_i hb
        simp only [Nat.testBit_or, Bool.or_eq_true] at h1
        rcases h1 with (h1 | h1) | h1
        · exact .inl h1
        · refine .inr ⟨e, List.mem_cons_self, hb, .inl ?_⟩
          rw [Nat.testBit_two_pow] at h1
          simpa using h1
        · exact .inr ⟨e, List.mem_cons_self, hb, .inr h1⟩
      · exact .inl h1
    · exact .inr ⟨e', List.mem_cons_of_mem _ h1, h2⟩
theorem mkL_pre : ∀ {l : List Oper} {acc : List Nat}, ∃ t, mkL l acc = acc ++ t := by
  intro l
  induction l with
  | nil => intro acc; exact ⟨[], by simp [mkL]⟩
  | cons o r ih => intro acc; obtain ⟨t, ht⟩ := ih (acc := acc ++ [mk1 acc o.after.toList 0]); exact ⟨mk1 acc o.after.toList 0 :: t, by simp only [mkL]; rw [ht]; simp⟩
theorem mkL_bit : ∀ {l : List Oper} {acc : List Nat} {k j : Nat} {o : Oper}, l[k]? = some o → ((mkL l acc).getD (acc.length + k) 0).testBit j = true →
    ∃ e ∈ o.after.toList, Region.binds .any e = true ∧ (e.on = j ∨ ((mkL l acc).getD e.on 0).testBit j = true) := by
  intro l
  induction l with
  | nil => intro acc k j o h; simp at h
  | cons y r ih =>
    intro acc k j o h hb
    cases k with
    | zero =>
      simp at h
      subst h
      obtain ⟨t, ht⟩ := mkL_pre (l := r) (acc := acc ++ [mk1 acc y.after.toList 0])
      simp only [mkL] at hb ⊢
      rw [ht] at hb ⊢
      have e1 : (acc ++ [mk1 acc y.after.toList 0] ++ t).getD (acc.length + 0) 0 = mk1 acc y.after.toList 0 := by simp
      rw [e1] at hb
      rcases mk1_bit hb with h1 | ⟨e, h1, h2, h3⟩
      · simp at h1
      · refine ⟨e, h1, h2, ?_⟩
        rcases h3 with h3 | h3
        · exact .inl h3
        · right
          have : (acc ++ [mk1 acc y.after.toList 0] ++ t).getD e.on 0 = acc.getD e.on 0 := by
            simp only [List.getD_eq_getElem?_getD]
            rcases Nat.lt_or_ge e.on acc.length with h4 | h4
            · rw [List.append_assoc, List.getElem?_append_left h4]
            · simp [List.getD_eq_getElem?_getD, List.getElem?_eq_none h4] at h3
          rw [this]; exact h3
    | succ k =>
      simp only [mkL] at hb ⊢
      have e1 : acc.length + (k + 1) = (acc ++ [mk1 acc y.after.toList 0]).length + k := by simp; omega
      rw [e1] at hb
      exact ih (by simpa using h) hb
end Go.Sy
namespace Go.Sy
open Go Go.RowKit Go.Lib

/-- An object that others may be writing: only its kind is seen. -/
def Ob.msk : Ob → Ob
  | .box t _ => .hidB t
  | .row e t l true => .hidR e t l.length
  | ob => ob
theorem Ob.msk_mut (o : Ob) : o.msk.mut = o.mut := by
  cases o with
  | row e t l own => cases own <;> rfl
  | _ => rfl
/-- What is seen of an object: all of it, or its kind, or that there may be one. -/
def Seen (c : Cx) (v : Ob) (o : Nat) : Prop :=
  v = c.objs.getD o .free ∨ (∃ b : Ob, v = b.msk ∧ b.mut = true ∧ b.leads (c.objs.getD o .free) ∧ (c.objs.getD o .free).mut = true) ∨
    (v = .hid0 ∧ ((c.objs.getD o .free).mut = true ∨ (c.objs.getD o .free = .free ∧ blkOf (c.φ o) = none)))
theorem Seen.mut {c : Cx} {v : Ob} {o : Nat} (h : Seen c v o) (hm : v.mut = true) : (c.objs.getD o .free).mut = true ∨ blkOf (c.φ o) = none := by
  rcases h with rfl | ⟨b, rfl, h1, _, h3⟩ | ⟨_, h1 | h1⟩
  · exact .inl hm
  · exact .inl h3
  · exact .inl h1
  · exact .inr h1.2
theorem Seen.mut' {c : Cx} {v : Ob} {o : Nat} (h : Seen c v o) (hm : (c.objs.getD o .free).mut = true) : v.mut = true := by
  rcases h with rfl | ⟨b, rfl, h1, _, h3⟩ | ⟨rfl, _⟩
  · exact hm
  · rw [Ob.msk_mut]; exact h1
  · rfl
theorem Seen.row {c : Cx} {v : Ob} {o : Nat} {e : TypeId} {t : Ty} {l : List (Den t)} (h : Seen c v o) (hv : v = .row e t l false) : c.objs.getD o .free = .row e t l false := by
  rcases h with rfl | ⟨b, rfl, h1, _, _⟩ | ⟨rfl, _⟩
  · exact hv
  · have := congrArg Ob.mut hv
    rw [Ob.msk_mut, h1] at this; cases this
  · cases hv
theorem Seen.ref {c c' : Cx} {o : Nat} (h : Seen c (c'.objs.getD o .free) o) (hp : c'.φ o = c.φ o) {p : List Sp} {u : Value} :
    (RefRel c o p u → RefRel c' o p u) ∧ (c'.objs.getD o .free ≠ .hid0 → RefRel c' o p u → RefRel c o p u) := by
  unfold RefRel
  rw [hp]
  rcases h with h | ⟨b, h, h1, h2, h3⟩ | ⟨h, _⟩
  · rw [h]; exact ⟨id, fun _ => id⟩
  · have key : ∀ (A B : Prop), A = B → (A → B) ∧ (c'.objs.getD o .free ≠ .hid0 → B → A) := fun A B e => ⟨fun x => e ▸ x, fun _ x => e ▸ x⟩
    apply key
    rw [h]
    cases b with
    | row e t l own =>
      cases own with
      | false => cases h1
      | true =>
        cases hx : c.objs.getD o .free <;> rw [hx] at h2 h3 <;> simp only [Ob.leads, Ob.mut, reduceCtorEq] at h2 h3
        obtain ⟨_, rfl, h4⟩ := h2
        simp only [Ob.msk, h4]
    | box t bt =>
      cases hx : c.objs.getD o .free <;> rw [hx] at h2 h3 <;> simp only [Ob.leads, Ob.mut, reduceCtorEq] at h2 h3
      subst h2
      simp only [Ob.msk]
    | hidB t =>
      cases hx : c.objs.getD o .free <;> rw [hx] at h2 h3 <;> simp only [Ob.leads, Ob.mut] at h2 h3
      subst h2
      simp only [Ob.msk]
    | hidR e t n =>
      cases hx : c.objs.getD o .free <;> rw [hx] at h2 h3 <;> simp only [Ob.leads, Ob.mut] at h2 h3
      obtain ⟨_, rfl, h4⟩ := h2
      simp only [Ob.msk, h4]
    | hid0 =>
      cases hx : c.objs.getD o .free <;> rw [hx] at h2 h3 <;> simp only [Ob.leads, Ob.mut] at h2 h3
      simp only [Ob.msk]
    | _ => cases h1
  · rw [h]; exact ⟨fun _ => trivial, fun k => absurd rfl k⟩
theorem Seen.rsl {c c' : Cx} {o : Nat} (h : Seen c (c'.objs.getD o .free) o) (hp : c'.φ o = c.φ o) {u : Value} :
    (RslRel c o u → RslRel c' o u) ∧ (c'.objs.getD o .free ≠ .hid0 → RslRel c' o u → RslRel c o u) := by
  unfold RslRel
  rw [hp]
  rcases h with h | ⟨b, h, h1, h2, h3⟩ | ⟨h, _⟩
  · rw [h]; exact ⟨id, fun _ => id⟩
  · have key : ∀ (A B : Prop), A = B → (A → B) ∧ (c'.objs.getD o .free ≠ .hid0 → B → A) := fun A B e => ⟨fun x => e ▸ x, fun _ x => e ▸ x⟩
    apply key
    rw [h]
    cases b with
    | row e t l own =>
      cases own with
      | false => cases h1
      | true =>
        cases hx : c.objs.getD o .free <;> rw [hx] at h2 h3 <;> simp only [Ob.leads, Ob.mut, reduceCtorEq] at h2 h3
        simp only [Ob.msk]
    | box t bt =>
      cases hx : c.objs.getD o .free <;> rw [hx] at h2 h3 <;> simp only [Ob.leads, Ob.mut, reduceCtorEq] at h2 h3
      simp only [Ob.msk]
    | hidB t =>
      cases hx : c.objs.getD o .free <;> rw [hx] at h2 h3 <;> simp only [Ob.leads, Ob.mut] at h2 h3
      simp only [Ob.msk]
    | hidR e t n =>
      cases hx : c.objs.getD o .free <;> rw [hx] at h2 h3 <;> simp only [Ob.leads, Ob.mut] at h2 h3
      simp only [Ob.msk]
    | hid0 =>
      cases hx : c.objs.getD o .free <;> rw [hx] at h2 h3 <;> simp only [Ob.leads, Ob.mut] at h2 h3
      simp only [Ob.msk]
    | _ => cases h1
  · rw [h]; exact ⟨fun _ => trivial, fun k => absurd rfl k⟩
theorem AV.lo_mono {p q : Nat → Prop} (h : ∀ o, p o → q o) : ∀ {a : AV}, a.lo p → a.lo q := by
  intro a
  induction a with
  | ref o x => intro k; exact h o k
  | rsl o => intro k; exact h o k
  | fn f k ih => intro k; exact ih k
  | pr a b iha ihb => intro k; exact ⟨iha k.1, ihb k.2⟩
  | tup a ih => intro k; exact ih k
  | ag t a ih => intro k; exact ih k
  | cat a b iha ihb => intro k; exact ⟨iha k.1, ihb k.2⟩
  | _ => intro _; trivial
/-- Some objects are seen by their kind alone. -/
abbrev Cx.see (c : Cx) (V : List Ob) : Cx := { c with objs := V }
theorem Cx.see_mv {c : Cx} {V : List Ob} (h : ∀ o, Seen c (V.getD o .free) o) (p : Nat → Prop) : Mv c (c.see V) p := by
  have hokr : ∀ b, c.okr b → (c.see V).okr b := fun b hb => ⟨hb.1, fun o ho => by
    rcases (h o).mut ho with h1 | h1
    · exact hb.2 o h1
    · show blkOf (c.φ o) ≠ some b; rw [h1]; simp⟩
  exact ⟨rfl, hokr, fun b hb => ⟨rfl, hb.1, hokr b hb.2⟩, fun o p u _ => (Seen.ref (c := c) (c' := c.see V) (h o) rfl).1, fun o u _ => (Seen.rsl (c := c) (c' := c.see V) (h o) rfl).1⟩
theorem Cx.see_ok {E : Env} {c : Cx} {V : List Ob} (hc : c.Ok E) (h : ∀ o, Seen c (V.getD o .free) o) : (c.see V).Ok E := by
  have := Cx.re_ok (L := V) (s := fun o => some o) hc (fun o o' hs hm => by cases hs; exact (h o).mut hm) (fun o p a hne h1 h2 => by cases h1; cases h2; exact absurd rfl hne) (fun o => by
    show ORel (c.see V) (c.φ o) (V.getD o .free)
    have hor := hc.objs o
    rcases h o with he | ⟨b, he, h1, h2, h3⟩ | ⟨he, _⟩
    · rw [he]; exact ORel.mv (Cx.see_mv h _) hor.lo hor
    · rw [he]
      cases b with
      | row e t l own => cases own <;> first | trivial | cases h1
      | free => cases h1
      | dead => cases h1
      | _ => trivial
    · rw [he]; trivial) (fun o e t l he b hb => hc.froz o e t l ((h o).row he) b hb)
  exact this
theorem AVL.see {c : Cx} {V : List Ob} (h : ∀ o, Seen c (V.getD o .free) o) {av : AV} {vs : List Value} (hv : AVL c av vs) : AVL (c.see V) av vs := hv.mv (Cx.see_mv h _) hv.lo
/-- Back to the whole: what was hidden is as it was. -/
theorem Cx.back {E : Env} {c d : Cx} {V L : List Ob} (hc : c.Ok E) (h : ∀ o, Seen c (V.getD o .free) o) (hd : d.Ok E) (hev : (c.see V).Evol d)
    (hL : ∀ o, (L.getD o .free = d.objs.getD o .free ∧ V.getD o .free = c.objs.getD o .free ∧ (d.objs.getD o .free).lo (fun q => d.objs.getD q .free ≠ .hid0)) ∨ (L.getD o .free = c.objs.getD o .free ∧ d.objs.getD o .free = V.getD o .free ∧ (V.getD o .free).isHid = true)) :
    (d.see L).Ok E ∧ c.Evol (d.see L) ∧ (∀ av vs, av.lo (fun q => d.objs.getD q .free ≠ .hid0) → AVL d av vs → AVL (d.see L) av vs) := by
  have hphi : ∀ o, (V.getD o .free matches .free) = false → d.φ o = c.φ o := fun o ho => hev.phi o ho
  have hmut : ∀ o, (L.getD o .free).mut = true → (d.objs.getD o .free).mut = true := by
    intro o hm
    rcases hL o with ⟨h1, _⟩ | ⟨h1, h2, _⟩
    · rw [← h1]; exact hm
    · rw [h2]; exact (h o).mut' (by rw [← h1]; exact hm)
  have nfm : ∀ o, (V.getD o .free).mut = true → (V.getD o .free matches .free) = false := by
    intro o ho
    cases hx : V.getD o .free <;> rw [hx] at ho <;> first | rfl | cases ho
  have mv : Mv d (d.see L) (fun q => d.objs.getD q .free ≠ .hid0) := by
    have hokr : ∀ b, d.okr b → (d.see L).okr b := fun b hb => ⟨hb.1, fun o ho => hb.2 o (hmut o ho)⟩
    refine ⟨rfl, hokr, fun b hb => ⟨rfl, hb.1, hokr b hb.2⟩, fun o p u hp hr => ?_, fun o u hp hr => ?_⟩
    · rcases hL o with ⟨h1, _⟩ | ⟨h1, h2, _⟩
      · unfold RefRel at hr ⊢
        have h1 : (d.see L).objs.getD o .free = d.objs.getD o .free := h1
        rw [h1]; exact hr
      · rcases h o with h3 | ⟨b, h3, h4, h5, h6⟩ | ⟨h3, _⟩
        · unfold RefRel at hr ⊢
          have h1 : (d.see L).objs.getD o .free = d.objs.getD o .free := by rw [h2, h3]; exact h1
          rw [h1]; exact hr
        · have hs : Seen (d.see L) (d.objs.getD o .free) o := .inr (.inl ⟨b, by rw [h2]; exact h3, h4, by show b.leads (L.getD o .free); rw [h1]; exact h5, by show (L.getD o .free).mut = true; rw [h1]; exact h6⟩)
          exact (Seen.ref (c := d.see L) (c' := d) hs rfl).2 hp hr
        · exact absurd (h2.trans h3) hp
    · rcases hL o with ⟨h1, _⟩ | ⟨h1, h2, _⟩
      · unfold RslRel at hr ⊢
        have h1 : (d.see L).objs.getD o .free = d.objs.getD o .free := h1
        rw [h1]; exact hr
      · rcases h o with h3 | ⟨b, h3, h4, h5, h6⟩ | ⟨h3, _⟩
        · unfold RslRel at hr ⊢
          have h1 : (d.see L).objs.getD o .free = d.objs.getD o .free := by rw [h2, h3]; exact h1
          rw [h1]; exact hr
        · have hs : Seen (d.see L) (d.objs.getD o .free) o := .inr (.inl ⟨b, by rw [h2]; exact h3, h4, by show b.leads (L.getD o .free); rw [h1]; exact h5, by show (L.getD o .free).mut = true; rw [h1]; exact h6⟩)
          exact (Seen.rsl (c := d.see L) (c' := d) hs rfl).2 hp hr
        · exact absurd (h2.trans h3) hp
  have hokr : ∀ b, c.okr b → d.w.heap[b]? = c.w.heap[b]? ∧ (d.see L).okr b := fun b hb => by
    have h1 := hev.okr b ((Cx.see_mv h (fun _ => True)).okr b hb)
    exact ⟨h1.1, mv.okr b h1.2⟩
  have hidm : ∀ o, V.getD o .free ≠ c.objs.getD o .free → (V.getD o .free).isHid = true := by
    intro o hne
    rcases h o with he | ⟨b, he, h1, h2, h3⟩ | ⟨he, _⟩
    · exact absurd he hne
    · rw [he]
      cases b with
      | row e t l own => cases own <;> first | rfl | cases h1
      | free => cases h1
      | dead => cases h1
      | _ => rfl
    · rw [he]; rfl
  have hidV : ∀ o, (c.objs.getD o .free).isHid = true → (V.getD o .free).isHid = true := by
    intro o ho
    by_cases e : V.getD o .free = c.objs.getD o .free
    · rw [e]; exact ho
    · exact hidm o e
  have hev2 : c.Evol (d.see L) := by
    refine ⟨hev.P, hev.ok0, hev.base, hev.os, hev.tape, hev.output, hev.size, hokr, fun o ho => hphi o ?_, fun o => ?_, fun o b ho hb => hev.hid o b (hidV o ho) hb⟩
    · by_cases e : V.getD o .free = c.objs.getD o .free
      · rw [e]; exact ho
      · exact nfm o (Ob.hid_mut (hidm o e))
    · rcases hL o with ⟨h1, h2, _⟩ | ⟨h1, h2, _⟩
      · have := hev.kinds o
        have h2 : (c.see V).objs.getD o .free = c.objs.getD o .free := h2
        rw [h2, ← h1] at this; exact this
      · show (c.objs.getD o .free).leads (L.getD o .free)
        rw [h1]; exact Ob.leads_refl _
  refine ⟨?_, hev2, fun av vs hl hv => hv.mv mv hl⟩
  have := Cx.re_ok (L := L) (s := fun o => some o) hd (fun o o' hs hm => by cases hs; exact .inl (hmut o hm)) (fun o p a hne h1 h2 => by cases h1; cases h2; exact absurd rfl hne) (fun o => by
    show ORel (d.see L) (d.φ o) (L.getD o .free)
    rcases hL o with ⟨h1, _, h3⟩ | ⟨h1, h2, h4⟩
    · rw [h1]; exact ORel.mv mv h3 (hd.objs o)
    · rw [h1, hphi o (nfm o (Ob.hid_mut h4))]
      exact ORel.evol (c' := d.see L) hev2 (fun b hb => hev.hid o b h4 hb) (hc.objs o)) (fun o e t l he b hb => by
    have he : L.getD o .free = .row e t l false := he
    have hb : blkOf (d.φ o) = some b := hb
    rcases hL o with ⟨h1, _⟩ | ⟨h1, h2, h4⟩
    · exact hd.froz o e t l (by rw [← h1]; exact he) b hb
    · exfalso
      rcases h o with h5 | ⟨b', h5, h6, h7, h8⟩ | ⟨_, h8 | ⟨h8, _⟩⟩
      · rw [h5, ← h1, he] at h4; cases h4
      · rw [← h1, he] at h8; cases h8
      · rw [← h1, he] at h8; cases h8
      · rw [← h1, he] at h8; cases h8)
  exact this
end Go.Sy
namespace Go.Sy
open Go Go.RowKit Go.Lib

/-- What one operation of a drawn region gave: its value, and the objects that it made or turned. -/
structure ORes where
  dst : Option Nat
  av : AV
  ms : List (Nat × Ob)
/-- The last write of k by the operations in S (the newest stand first). -/
def lastR {α : Type} (F : Nat → ORes → List (Nat × α)) : List ORes → (Nat → Bool) → Nat → α → α
  | [], _, _, d => d
  | r :: rs, S, k, d => if S rs.length = true then (match look (F rs.length r) k with
    | some x => x
    | none => lastR F rs S k d) else lastR F rs S k d
def slF (_ : Nat) (r : ORes) : List (Nat × AV) := match r.dst with | some d => [(d, r.av)] | none => []
def slK (kn : List (Nat × Bool)) (j : Nat) (r : ORes) : List (Nat × AV) :=
  match r.dst with
  | some d => [(d, match look kn j with | some b => .kb b | none => r.av)]
  | none => []
def slI (j : Nat) (r : ORes) : List (Nat × Option Nat) := match r.dst with | some d => [(d, some j)] | none => []
def msF (_ : Nat) (r : ORes) : List (Nat × Ob) := r.ms
def atR : List ORes → Nat → Option ORes
  | [], _ => none
  | r :: rs, j => if Nat.beq j rs.length then some r else atR rs j
theorem atR_lt : ∀ {rs : List ORes} {j : Nat}, j < rs.length → ∃ r, atR rs j = some r
  | r :: rs, j, h => by
    simp only [atR]
    split
    · exact ⟨r, rfl⟩
    · rename_i hne
      exact atR_lt (rs := rs) (by
        have : j ≠ rs.length := fun e => hne (by subst e; exact Nat.beq_refl _)
        simp at h; omega)
theorem atR_some : ∀ {rs : List ORes} {j : Nat} {r : ORes}, atR rs j = some r → j < rs.length
  | y :: rs, j, r, h => by
    simp only [atR] at h
    split at h
    · rename_i e; rw [Nat.eq_of_beq_eq_true e]; simp
    · have := atR_some h; simp; omega
theorem atR_app : ∀ {p rs : List ORes} {j : Nat}, j < rs.length → atR (p ++ rs) j = atR rs j
  | [], _, _, _ => rfl
  | y :: p, rs, j, h => by
    show (if Nat.beq j (p ++ rs).length then some y else atR (p ++ rs) j) = _
    rw [if_neg (fun e => by have := Nat.eq_of_beq_eq_true e; simp at this; omega)]
    exact atR_app h
section
variable {α : Type} {F : Nat → ORes → List (Nat × α)}
theorem lastR_app {S : Nat → Bool} {k : Nat} {d : α} {rs : List ORes} (h : ∀ j, rs.length ≤ j → S j = false) : ∀ {p : List ORes}, lastR F (p ++ rs) S k d = lastR F rs S k d
  | [] => rfl
  | y :: p => by
    show (if S (p ++ rs).length = true then _ else lastR F (p ++ rs) S k d) = _
    rw [if_neg (by rw [h _ (by simp)]; simp)]
    exact lastR_app h
theorem lastR_congr {S T : Nat → Bool} {k : Nat} {d : α} : ∀ {rs : List ORes}, (∀ j r, atR rs j = some r → (look (F j r) k).isSome = true → S j = T j) → lastR F rs S k d = lastR F rs T k d
  | [], _ => rfl
  | y :: rs, h => by
    have hy : atR (y :: rs) rs.length = some y := by simp [atR, Nat.beq_refl]
    have ht : lastR F rs S k d = lastR F rs T k d := lastR_congr fun j r hj hl => h j r (by
      have := atR_some hj
      simp only [atR]
      rw [if_neg (fun e => by have := Nat.eq_of_beq_eq_true e; omega)]
      exact hj) hl
    simp only [lastR]
    cases hl : look (F rs.length y) k with
    | none => simp only [ht]; split <;> split <;> rfl
    | some x =>
      have := h rs.length y hy (by rw [hl]; rfl)
      rw [this, ht]
/-- What the last write is: of an operation in S, or none is. -/
theorem lastR_cases {S : Nat → Bool} {k : Nat} {d : α} : ∀ {rs : List ORes},
    (∃ j r x, atR rs j = some r ∧ S j = true ∧ look (F j r) k = some x ∧ lastR F rs S k d = x ∧ ∀ j' r', atR rs j' = some r' → S j' = true → (look (F j' r') k).isSome = true → j' ≤ j) ∨
    ((∀ j r, atR rs j = some r → S j = true → look (F j r) k = none) ∧ lastR F rs S k d = d)
  | [] => .inr ⟨(fun j r h => by cases h), rfl⟩
  | y :: rs => by
    have hy : atR (y :: rs) rs.length = some y := by simp [atR, Nat.beq_refl]
    have up : ∀ {j r}, atR rs j = some r → atR (y :: rs) j = some r := fun {j r} hj => by
      have := atR_some hj
      simp only [atR]
      rw [if_neg (fun e => by have := Nat.eq_of_beq_eq_true e; omega)]
      exact hj
    have dn : ∀ {j r}, atR (y :: rs) j = some r → (j = rs.length ∧ r = y) ∨ atR rs j = some r := fun {j r} hj => by
      simp only [atR] at hj
      split at hj
      · rename_i e; cases hj; exact .inl ⟨Nat.eq_of_beq_eq_true e, rfl⟩
      · exact .inr hj
    by_cases hS : S rs.length = true
    · cases hl : look (F rs.length y) k with
      | some x =>
        refine .inl ⟨rs.length, y, x, hy, hS, hl, by simp only [lastR]; rw [if_pos hS, hl], fun j' r' h1 _ _ => ?_⟩
        rcases dn h1 with ⟨h2, _⟩ | h2
        · omega
        · have := atR_some h2; omega
      | none =>
        have e : lastR F (y :: rs) S k d = lastR F rs S k d := by simp only [lastR]; rw [if_pos hS, hl]
        rw [e]
        rcases lastR_cases (rs := rs) (S := S) (k := k) (d := d) with ⟨j, r, x, h1, h2, h3, h4, h5⟩ | ⟨h1, h2⟩
        · refine .inl ⟨j, r, x, up h1, h2, h3, h4, fun j' r' q1 q2 q3 => ?_⟩
          rcases dn q1 with ⟨rfl, rfl⟩ | q1
          · rw [hl] at q3; cases q3
          · exact h5 j' r' q1 q2 q3
        · refine .inr ⟨fun j r q1 q2 => ?_, h2⟩
          rcases dn q1 with ⟨rfl, rfl⟩ | q1
          · exact hl
          · exact h1 j r q1 q2
    · have e : lastR F (y :: rs) S k d = lastR F rs S k d := by simp only [lastR]; rw [if_neg hS]
      rw [e]
      rcases lastR_cases (rs := rs) (S := S) (k := k) (d := d) with ⟨j, r, x, h1, h2, h3, h4, h5⟩ | ⟨h1, h2⟩
      · refine .inl ⟨j, r, x, up h1, h2, h3, h4, fun j' r' q1 q2 q3 => ?_⟩
        rcases dn q1 with ⟨rfl, rfl⟩ | q1
        · exact absurd q2 hS
        · exact h5 j' r' q1 q2 q3
      · refine .inr ⟨fun j r q1 q2 => ?_, h2⟩
        rcases dn q1 with ⟨rfl, rfl⟩ | q1
        · exact absurd q2 hS
        · exact h1 j r q1 q2
/-- Operation i is added: no later one in S writes k. -/
theorem lastR_add {S T : Nat → Bool} {k i : Nat} {d : α} {rs : List ORes} {r : ORes} (hr : atR rs i = some r) (hT : ∀ j, T j = (S j || Nat.beq j i)) (hS : S i = false)
    (hl : ∀ j r', atR rs j = some r' → S j = true → (look (F j r') k).isSome = true → (look (F i r) k).isSome = true → j < i) :
    lastR F rs T k d = match look (F i r) k with | some x => x | none => lastR F rs S k d := by
  cases hx : look (F i r) k with
  | none =>
    refine lastR_congr fun j r' h1 h2 => ?_
    rw [hT]
    cases e : Nat.beq j i with
    | false => simp
    | true =>
      have := Nat.eq_of_beq_eq_true e
      subst this
      rw [hr] at h1; cases h1
      rw [hx] at h2; cases h2
  | some x =>
    rcases lastR_cases (F := F) (rs := rs) (S := T) (k := k) (d := d) with ⟨j, r', y, h1, h2, h3, h4, h5⟩ | ⟨h1, _⟩
    · rw [h4]
      have hi := h5 i r hr (by rw [hT]; simp [Nat.beq_refl]) (by rw [hx]; rfl)
      rw [hT] at h2
      cases e : Nat.beq j i with
      | true =>
        have := Nat.eq_of_beq_eq_true e
        subst this
        rw [hr] at h1; cases h1
        rw [hx] at h3; cases h3; rfl
      | false =>
        rw [e, Bool.or_false] at h2
        have := hl j r' h1 h2 (by rw [h3]; rfl) (by rw [hx]; rfl)
        omega
    · have := h1 i r hr (by rw [hT]; simp [Nat.beq_refl])
      rw [hx] at this; cases this
end
end Go.Sy
namespace Go.Sy
open Go Go.RowKit Go.Lib

def AV.refs (p : Nat → Bool) : AV → Bool
  | .ref o _ => p o
  | .rsl o => p o
  | .fn _ k => k.refs p
  | .pr a b => a.refs p && b.refs p
  | .tup a => a.refs p
  | .ag _ a => a.refs p
  | .cat a b => a.refs p && b.refs p
  | _ => true
def BT.refs (p : Nat → Bool) : BT → Bool
  | .lf a => a.refs p
  | .nd x y => x.refs p && y.refs p
def Ob.refs (p : Nat → Bool) : Ob → Bool
  | .box _ b => b.refs p
  | _ => true
theorem AV.refs_lo {p : Nat → Bool} : ∀ {a : AV}, a.refs p = true → a.lo (fun o => p o = true) := by
  intro a
  induction a with
  | ref o x => intro h; exact h
  | rsl o => intro h; exact h
  | fn f k ih => intro h; exact ih h
  | pr a b iha ihb => intro h; simp only [AV.refs, Bool.and_eq_true] at h; exact ⟨iha h.1, ihb h.2⟩
  | tup a ih => intro h; exact ih h
  | ag t a ih => intro h; exact ih h
  | cat a b iha ihb => intro h; simp only [AV.refs, Bool.and_eq_true] at h; exact ⟨iha h.1, ihb h.2⟩
  | _ => intro _; trivial
theorem BT.refs_lo {p : Nat → Bool} : ∀ {b : BT}, b.refs p = true → b.lo (fun o => p o = true) := by
  intro b
  induction b with
  | lf a => intro h; exact AV.refs_lo h
  | nd x y ihx ihy => intro h; simp only [BT.refs, Bool.and_eq_true] at h; exact ⟨ihx h.1, ihy h.2⟩
theorem Ob.refs_lo {p : Nat → Bool} {o : Ob} (h : o.refs p = true) : o.lo (fun o => p o = true) := by
  cases o with
  | box t b => exact BT.refs_lo h
  | _ => trivial
def isH0 : Ob → Bool
  | .hid0 => true
  | _ => false
/-- A region drawn: its operations, what goes ahead of each, what each may turn, the slots and objects at its start. -/
structure Rg where
  ops : List Oper
  M : List Nat
  G : List (List Nat)
  tm : List AV
  B : List Ob
  n0 : Nat
def Rg.bit (g : Rg) (i j : Nat) : Bool := (g.M.getD i 0).testBit j
def Rg.cmp (g : Rg) (i j : Nat) : Bool := Nat.beq i j || g.bit i j || g.bit j i
def Rg.visS (g : Rg) (i t : Nat) : List Oper → Nat → Bool
  | [], _ => true
  | o :: r, j => (match o.dst with | some d => !Nat.beq d t || g.cmp i j | none => true) && g.visS i t r (j + 1)
def Rg.visO (g : Rg) (i o : Nat) : List (List Nat) → Nat → Bool
  | [], _ => true
  | m :: r, j => (!m.contains o || g.cmp i j) && g.visO i o r (j + 1)
def Rg.slot (g : Rg) (kn : List (Nat × Bool)) (rs : List ORes) (i t : Nat) : AV :=
  if g.visS i t g.ops 0 = true then lastR (slK kn) rs (g.bit i) t (g.tm.getD t .top) else .top
def Rg.base (g : Rg) (o : Nat) : Ob := g.B.getD o .free
def Rg.hide (g : Rg) (o : Nat) : Ob → Ob
  | .free => if Nat.blt o g.n0 = true then .free else .hid0
  | x => x.msk
theorem Rg.hide_nf {g : Rg} {o : Nat} {x : Ob} (h : x ≠ .free) : g.hide o x = x.msk := by cases x <;> first | rfl | exact absurd rfl h
def Rg.ob (g : Rg) (rs : List ORes) (i o : Nat) : Ob :=
  if g.visO i o g.G 0 = true then lastR msF rs (g.bit i) o (g.base o)
  else g.hide o (lastR msF rs (g.bit i) o (g.base o))
def tab (f : Nat → Ob) : Nat → Nat → List Ob
  | 0, _ => []
  | n + 1, k => f k :: tab f n (k + 1)
theorem tab_get {f : Nat → Ob} : ∀ {n k i : Nat}, i < n → (tab f n k).getD i .free = f (k + i) := by
  intro n
  induction n with
  | zero => intro k i h; omega
  | succ n ih =>
    intro k i h
    cases i with
    | zero => rfl
    | succ i =>
      simp only [tab, List.getD_cons_succ]
      rw [ih (by omega)]
      congr 1; omega
theorem tab_len {f : Nat → Ob} : ∀ {n k : Nat}, (tab f n k).length = n := by
  intro n
  induction n with
  | zero => intro k; rfl
  | succ n ih => intro k; simp [tab, ih]
def Rg.obs (g : Rg) (rs : List ORes) (i : Nat) : List Ob := tab (g.ob rs i) g.B.length 0
def Rg.ev (g : Rg) (E : Env) (kn : List (Nat × Bool)) (rs : List ORes) (i : Nat) : Operand → AV
  | .tmp t => g.slot kn rs i t
  | x => evO E [] x
theorem visS_spec {g : Rg} {i t : Nat} : ∀ {l : List Oper} {j0 : Nat}, g.visS i t l j0 = true → ∀ (k : Nat) (o : Oper), l[k]? = some o → o.dst = some t → g.cmp i (j0 + k) = true := by
  intro l
  induction l with
  | nil => intro j0 _ k o h; simp at h
  | cons y r ih =>
    intro j0 h k o hk hd
    simp only [Rg.visS, Bool.and_eq_true] at h
    cases k with
    | zero =>
      simp at hk; subst hk
      rw [hd] at h
      simp only [Nat.beq_refl, Bool.not_true, Bool.false_or] at h
      exact h.1
    | succ k =>
      have := ih h.2 k o (by simpa using hk) hd
      rw [show j0 + (k + 1) = j0 + 1 + k by omega]; exact this
theorem visO_spec {g : Rg} {i o : Nat} : ∀ {l : List (List Nat)} {j0 : Nat}, g.visO i o l j0 = true → ∀ (k : Nat), (l.getD k []).contains o = true → g.cmp i (j0 + k) = true := by
  intro l
  induction l with
  | nil => intro j0 _ k h; simp at h
  | cons y r ih =>
    intro j0 h k hk
    simp only [Rg.visO, Bool.and_eq_true] at h
    cases k with
    | zero =>
      have hk : y.contains o = true := hk
      rw [hk] at h
      simpa using h.1
    | succ k =>
      have := ih h.2 k (by simpa using hk)
      rw [show j0 + (k + 1) = j0 + 1 + k by omega]; exact this
/-- What an operation did, if it did no more than it may. -/
def Rg.rcd (g : Rg) (i : Nat) (dst : Option Nat) (av : AV) (h h' : Hp) : Option ORes :=
  if Nat.beq h'.objs.length h.objs.length
    && h'.dO.all (fun q => (g.G.getD i []).contains q && g.visO i q g.G 0 && (h'.get q).mut && !(h'.get q).isHid && Nat.blt q g.B.length && (if Nat.blt q g.n0 = true then (g.base q).mut else (Nat.beq q (g.n0 + i) || (h.get q).mut)))
    && av.refs (fun q => !isH0 (h'.get q)) && h'.objs.all (fun ob => ob.refs (fun q => !isH0 (h'.get q)))
  then some ⟨dst, av, h'.dO.map fun q => (q, h'.get q)⟩ else none
inductive Gd where
  | yes | no | bad
  | split (j : Nat) (b : Bool) (want : Bool)
def Rg.gd (g : Rg) (kn : List (Nat × Bool)) (rs : List ORes) (i : Nat) (o : Oper) : Gd :=
  match o.guard with
  | none => .yes
  | some (j, want) => match (g.ops[j]?).bind (·.dst) with
    | none => .bad
    | some d => match g.slot kn rs i d with
      | .kb b => if b = want then .yes else .no
      | .v .bool b => (match lastR slI rs (g.bit i) d none with
        | some j' => .split j' b want
        | none => .bad)
      | .tup .un => .no
      | _ => .bad
/-- One operation of a drawn region: what it gives. A call goes by contract. -/
def Rg.one (g : Rg) (E : Env) (kn : List (Nat × Bool)) (rs : List ORes) (i : Nat) (o : Oper) (R : Type) (K : ORes → Option R) : Option R :=
  let h : Hp := ⟨g.obs rs i, []⟩
  match o.op with
  | .call ⟨.value f, args, _⟩ => (match g.ev E kn rs i f with
    | .fn id k => if isPr k = true then (match look E.con id with
      | some q => (match takeA h q.ps (args.toList.map (g.ev E kn rs i) ++ unPr k) with
        | some (x, h') => (match g.rcd i o.dst .top h (if noSl q.rs = true then h else h') with
          | some r => (q.F x).bind fun y => K ⟨r.dst, resAV q.rs y, r.ms⟩
          | none => none)
        | none => none)
      | none => none) else none
    | _ => none)
  | op => match opV E h (g.n0 + i) (g.ev E kn rs i) o.type op with
    | some (gu, av, h') => if gu = true then (match g.rcd i o.dst av h h' with
      | some r => K r
      | none => none) else none
    | none => none
/-- The operations from the i-th on. -/
def Rg.go (g : Rg) (E : Env) (R : Type) (K : List ORes → Option R) : List Oper → Nat → List (Nat × Bool) → List ORes → Option R
  | [], _, _, rs => K rs
  | o :: l, i, kn, rs => match g.gd kn rs i o with
    | .yes => g.one E kn rs i o R fun r => g.go E R K l (i + 1) kn (r :: rs)
    | .no => g.go E R K l (i + 1) kn (⟨o.dst, .tup .un, []⟩ :: rs)
    | .bad => none
    | .split j b want => cond b
      (if true = want then g.one E ((j, true) :: kn) rs i o R fun r => g.go E R K l (i + 1) ((j, true) :: kn) (r :: rs) else g.go E R K l (i + 1) ((j, true) :: kn) (⟨o.dst, .tup .un, []⟩ :: rs))
      (if false = want then g.one E ((j, false) :: kn) rs i o R fun r => g.go E R K l (i + 1) ((j, false) :: kn) (r :: rs) else g.go E R K l (i + 1) ((j, false) :: kn) (⟨o.dst, .tup .un, []⟩ :: rs))
end Go.Sy
