/- A symbolic evaluator of the model's code, shown sound once for every program (part 8 of 9): what it computes of a function is what the function does. -/
import Derived.Test.YtageoaecepnfnaaGreatDoorSyG
namespace Go.Sy
open Go Go.RowKit Go.Lib

theorem look_map {α : Type} {f : Nat → α} : ∀ {l : List Nat} {q : Nat}, look (l.map fun q => (q, f q)) q = if l.contains q = true then some (f q) else none
  | [], q => rfl
  | y :: l, q => by
    simp only [List.map_cons, look, List.contains_cons]
    by_cases e : y = q
    · subst e; simp
    · rw [if_neg (fun h => e (Nat.eq_of_beq_eq_true h)), look_map]
      have : (q == y) = false := by simpa using fun h => e h.symm
      rw [this, Bool.false_or]
theorem BT.lo_mono {p q : Nat → Prop} (h : ∀ o, p o → q o) : ∀ {b : BT}, b.lo p → b.lo q := by
  intro b
  induction b with
  | lf a => intro k; exact AV.lo_mono h k
  | nd x y ihx ihy => intro k; exact ⟨ihx k.1, ihy k.2⟩
theorem Ob.lo_mono {p q : Nat → Prop} (h : ∀ o, p o → q o) {b : Ob} (k : b.lo p) : b.lo q := by
  cases b with
  | box t b => exact BT.lo_mono h k
  | _ => trivial
/-- What may be said of what an operation turned. -/
structure MsOk (g : Rg) (rs : List ORes) (i : Nat) (r : ORes) : Prop where
  ms : ∀ q ob, look r.ms q = some ob → (g.G.getD i []).contains q = true ∧ g.visO i q g.G 0 = true ∧ ob.mut = true ∧ ob.isHid = false ∧ q < g.B.length ∧
    (q < g.n0 → (g.base q).mut = true) ∧ (g.n0 ≤ q → q = g.n0 + i ∨ (g.ob rs i q).mut = true)
def noH (d : Cx) (x : Nat) : Prop := d.objs.getD x .free ≠ .hid0
/-- Operation i, over any context that its view fits. -/
def Ran (E : Env) (P : Program) (g : Rg) (ops : Array Oper) (rs : List ORes) (i : Nat) (o : Oper) (r : ORes) : Prop :=
  MsOk g rs i r ∧ ∀ (c : Cx) (a : Act), c.P = P → c.Ok E → c.objs = g.obs rs i → (∀ t, AVL c (g.slot [] rs i t) [a.tmps.getD t undef]) →
    Region.wanted o (yielded ops a.tmps) = true ∧ ∀ (next : Act → World → Prop) (Q : Exit → Act → World → Prop),
      (∀ (d : Cx) (v : Value), d.Ok E → c.Evol d → d.objs.length = c.objs.length → (∀ q, d.objs.getD q .free = match look r.ms q with | some ob => ob | none => c.objs.getD q .free) →
        (∀ q, (d.objs.getD q .free).lo (noH d)) → r.av.lo (noH d) → AVL d r.av [v] → next (a.put o.dst v) d.w) → o.wp P a c.w next Q
def Skp (E : Env) (P : Program) (g : Rg) (ops : Array Oper) (rs : List ORes) (i : Nat) (o : Oper) (r : ORes) : Prop :=
  r.av = .tup .un ∧ r.ms = [] ∧ ∀ (c : Cx) (a : Act), c.P = P → c.Ok E → c.objs = g.obs rs i → (∀ t, AVL c (g.slot [] rs i t) [a.tmps.getD t undef]) → Region.wanted o (yielded ops a.tmps) = false
def Fct (E : Env) (P : Program) (g : Rg) (ops : Array Oper) (rs : List ORes) (i : Nat) (o : Oper) (r : ORes) : Prop := r.dst = o.dst ∧ (Ran E P g ops rs i o r ∨ Skp E P g ops rs i o r)
def KnOk (kn : List (Nat × Bool)) (rs : List ORes) : Prop := ∀ j b, look kn j = some b → ∃ r, atR rs j = some r ∧ r.av = .v .bool b
theorem slK_rel {kn : List (Nat × Bool)} {S : Nat → Bool} {t : Nat} {d : AV} : ∀ {rs : List ORes}, (∀ j r, atR rs j = some r → ∀ b, look kn j = some b → r.av = .v .bool b) →
    lastR (slK kn) rs S t d = lastR (slK []) rs S t d ∨ ∃ b, lastR (slK []) rs S t d = .v .bool b ∧ lastR (slK kn) rs S t d = .kb b := by
  intro rs
  induction rs with
  | nil => intro _; exact .inl rfl
  | cons y rs ih =>
    intro h
    have ht := ih fun j r hj => h j r (by
      have := atR_some hj
      simp only [atR]
      rw [if_neg (fun e => by have := Nat.eq_of_beq_eq_true e; omega)]
      exact hj)
    have hy : atR (y :: rs) rs.length = some y := by simp [atR, Nat.beq_refl]
    simp only [lastR]
    by_cases hS : S rs.length = true
    · rw [if_pos hS, if_pos hS]
      cases hd : y.dst with
      | none => simp only [slK, hd, look]; exact ht
      | some q =>
        simp only [slK, hd, look]
        by_cases e : Nat.beq q t = true
        · simp only [e, if_true]
          cases hk : look kn rs.length with
          | none => exact .inl rfl
          | some b => exact .inr ⟨b, h _ _ hy b hk, rfl⟩
        · simp only [e]; exact ht
    · rw [if_neg hS, if_neg hS]; exact ht
theorem slot_kn {g : Rg} {kn : List (Nat × Bool)} {rs : List ORes} {i t : Nat} (hk : KnOk kn rs) {c : Cx} {v : Value} (h : AVL c (g.slot [] rs i t) [v]) : AVL c (g.slot kn rs i t) [v] := by
  unfold Rg.slot at h ⊢
  split
  · rename_i hv
    rw [if_pos hv] at h
    have hh : ∀ j r, atR rs j = some r → ∀ b, look kn j = some b → r.av = .v .bool b := fun j r hj b hb => by
      obtain ⟨r', h1, h2⟩ := hk j b hb
      rw [hj] at h1; cases h1; exact h2
    rcases slK_rel (S := g.bit i) (t := t) (d := g.tm.getD t .top) hh with e | ⟨b, e1, e2⟩
    · rw [e]; exact h
    · rw [e2]; rw [e1] at h
      obtain ⟨u, hu, hb⟩ := h
      have hb := VRep_bool hb
      cases hu; rw [hb]; rfl
  · exact ⟨_, rfl⟩
theorem evO_nil {E : Env} {c : Cx} (ho : c.Ok E) {a : Act} {x : Operand} (hx : ∀ t, x ≠ .tmp t) : AVL c (evO E [] x) [a.eval x] := by
  cases x with
  | tmp t => exact absurd rfl (hx t)
  | const v => exact ofC_ok c v
  | global g =>
    show AVL c (match look E.gl g with | some x => AV.dp x.t x.x | none => .top) _
    split
    · rename_i x hx
      obtain ⟨ds, h1, h2, h3⟩ := ho.glob g x (look_mem hx)
      exact ⟨g, 0, ds, rfl, h3.2, h1.cells, h2⟩
    · exact ⟨_, rfl⟩
  | func f => exact ⟨[], rfl, rfl⟩
theorem ev_ok {E : Env} {g : Rg} {kn : List (Nat × Bool)} {rs : List ORes} {i : Nat} (hk : KnOk kn rs) {c : Cx} {a : Act} (ho : c.Ok E) (h : ∀ t, AVL c (g.slot [] rs i t) [a.tmps.getD t undef]) (x : Operand) :
    AVL c (g.ev E kn rs i x) [a.eval x] := by
  cases x with
  | tmp t => exact slot_kn hk (h t)
  | const v => exact evO_nil (x := .const v) ho (by intro t h; cases h)
  | global g => exact evO_nil (x := .global g) ho (by intro t h; cases h)
  | func f => exact evO_nil (x := .func f) ho (by intro t h; cases h)
theorem rcd_ok {g : Rg} {rs : List ORes} {i : Nat} {dst : Option Nat} {av : AV} {h' : Hp} {r : ORes} (h : g.rcd i dst av ⟨g.obs rs i, []⟩ h' = some r) (hag : (⟨g.obs rs i, []⟩ : Hp).Agr h') :
    r.dst = dst ∧ r.av = av ∧ MsOk g rs i r ∧ h'.objs.length = (g.obs rs i).length ∧ (∀ q, h'.objs.getD q .free = match look r.ms q with | some ob => ob | none => (g.obs rs i).getD q .free) ∧
    (∀ q, (h'.objs.getD q .free).lo (fun x => h'.objs.getD x .free ≠ .hid0)) ∧ av.lo (fun x => h'.objs.getD x .free ≠ .hid0) := by
  unfold Rg.rcd at h
  split at h
  · rename_i hc
    cases h
    simp only [Bool.and_eq_true] at hc
    obtain ⟨⟨⟨c1, c2⟩, c3⟩, c4⟩ := hc
    have hlen : h'.objs.length = (g.obs rs i).length := Nat.eq_of_beq_eq_true c1
    have nh : ∀ x, (!isH0 (h'.get x)) = true → h'.objs.getD x .free ≠ .hid0 := fun x hx e => by
      have : h'.get x = .hid0 := e
      rw [this] at hx; cases hx
    refine ⟨rfl, rfl, ⟨fun q ob hq => ?_⟩, hlen, fun q => ?_, fun q => ?_, AV.lo_mono nh (AV.refs_lo c3)⟩
    · rw [look_map] at hq
      split at hq
      · rename_i hm
        cases hq
        have := all_contains c2 hm
        simp only [Bool.and_eq_true, Bool.not_eq_true'] at this
        obtain ⟨⟨⟨⟨⟨k1, k2⟩, k3⟩, k4⟩, k5⟩, k6⟩ := this
        have hq : q < g.B.length := by simpa using k5
        refine ⟨k1, k2, k3, k4, hq, fun hlt => ?_, fun hge => ?_⟩
        · rw [if_pos (by simpa using hlt)] at k6; exact k6
        · rw [if_neg (by simpa using hge)] at k6
          simp only [Bool.or_eq_true] at k6
          rcases k6 with k6 | k6
          · exact .inl (Nat.eq_of_beq_eq_true k6)
          · right
            have e : (g.obs rs i).getD q .free = g.ob rs i q := by unfold Rg.obs; rw [tab_get hq, Nat.zero_add]
            have k6 : ((g.obs rs i).getD q .free).mut = true := k6
            rw [e] at k6; exact k6
      · cases hq
    · rw [look_map]
      cases hm : h'.dO.contains q with
      | true => simp only [if_true]; rfl
      | false =>
        simp only [Bool.false_eq_true, if_false]
        rcases Nat.lt_or_ge q (g.obs rs i).length with hq | hq
        · exact hag.same q hq hm
        · rw [getD_ge hq, getD_ge (by omega)]
    · rcases Nat.lt_or_ge q h'.objs.length with hq | hq
      · rw [List.all_eq_true] at c4
        have := c4 (h'.objs.getD q .free) (by rw [List.getD_eq_getElem?_getD, List.getElem?_eq_getElem hq]; simp)
        exact Ob.lo_mono nh (Ob.refs_lo this)
      · rw [getD_ge hq]; trivial
  · cases h
end Go.Sy
namespace Go.Sy
open Go Go.RowKit Go.Lib

theorem take0_agr {h h' : Hp} {a : Ty} {av : AV} {x : Den a} (e1 : take0 h a av = some (x, h')) : h.Agr h' := by
  cases av with
  | nils => cases a <;> simp [take0] at e1; obtain ⟨_, rfl⟩ := e1; exact Hp.Agr.refl _
  | rsl o =>
    cases a <;> simp only [take0, reduceCtorEq] at e1
    cases he : h.get o <;> rw [he] at e1 <;> simp only [reduceCtorEq] at e1
    split at e1
    · simp only [Option.some.injEq, Prod.mk.injEq] at e1
      obtain ⟨_, rfl⟩ := e1
      split
      · refine Hp.Agr.set h o _ ?_
        rcases Nat.lt_or_ge o h.objs.length with h3 | h3
        · omega
        · have : h.get o = .free := getD_ge h3
          rw [this] at he; cases he
      · exact Hp.Agr.refl _
    · cases e1
  | _ =>
    simp only [take0, Option.map_eq_some_iff] at e1
    obtain ⟨y, _, he⟩ := e1
    cases he; exact Hp.Agr.refl _
theorem takeC_agr : ∀ {av : AV} {h h' : Hp} {t : Ty} {g : GV}, takeC h t av = some (g, h') → h.Agr h' := by
  intro av
  induction av with
  | cl u x =>
    intro h h' t g ht
    have ht : some ((⟨u, x⟩ : GV), h) = some (g, h') := by cases t <;> exact ht
    cases ht; exact Hp.Agr.refl _
  | cat a b iha ihb =>
    intro h h' t g ht
    cases t with
    | cons s t =>
      simp only [takeC] at ht
      split at ht
      · rename_i y h1 hy
        split at ht
        · rename_i z h2 hz
          cases ht
          exact (iha hy).trans (ihb hz)
        · cases ht
      · cases ht
    | _ => simp [takeC] at ht
  | rsl o =>
    intro h h' t g ht
    have ht : (if t.isAgg = false then ((take0 h t (.rsl o)).map fun r => ((⟨t, r.1⟩, r.2) : GV × Hp)) else none) = some (g, h') := by cases t <;> exact ht
    split at ht
    · obtain ⟨r, h1, h2⟩ := Option.map_eq_some_iff.1 ht
      cases h2; exact take0_agr (x := r.1) (h' := r.2) h1
    · cases ht
  | nils =>
    intro h h' t g ht
    have ht : (if t.isAgg = false then ((take0 h t .nils).map fun r => ((⟨t, r.1⟩, r.2) : GV × Hp)) else none) = some (g, h') := by cases t <;> exact ht
    split at ht
    · obtain ⟨r, h1, h2⟩ := Option.map_eq_some_iff.1 ht
      cases h2; exact take0_agr (x := r.1) (h' := r.2) h1
    · cases ht
  | _ => intro h h' t g ht; cases t <;> simp [takeC] at ht
theorem take_agr {h h' : Hp} {a : Ty} {av : AV} {x : Den a} (e1 : take h a av = some (x, h')) : h.Agr h' := by
  cases av with
  | ag u a =>
    simp only [take] at e1
    split at e1
    · split at e1
      · rename_i g h1 hg
        split at e1
        · cases e1; exact takeC_agr hg
        · cases e1
      · cases e1
    · cases e1
  | _ => rw [take_eq (by intro _ _ e; cases e)] at e1; exact take0_agr e1
theorem obs_noH {d : Cx} {h' : Hp} (e : d.objs = h'.objs) {P : (Nat → Prop) → Prop} (h : P (fun x => h'.objs.getD x .free ≠ .hid0)) : P (noH d) := by
  have : noH d = fun x => h'.objs.getD x .free ≠ .hid0 := by funext x; unfold noH; rw [e]
  rw [this]; exact h
theorem one_ok {E : Env} {P : Program} {g : Rg} {ops : Array Oper} (hE : E.Ok P) (hC : ∀ f k, look E.con f = some k → Sat P E.gl f k) {kn : List (Nat × Bool)} {rs : List ORes} {i : Nat} {o : Oper} {R : Type} {K : ORes → Option R} {r : R}
    (hk : g.one E kn rs i o R K = some r) (hkn : KnOk kn rs)
    (hw : ∀ (c : Cx) (a : Act), c.P = P → c.Ok E → c.objs = g.obs rs i → (∀ t, AVL c (g.slot [] rs i t) [a.tmps.getD t undef]) → Region.wanted o (yielded ops a.tmps) = true) :
    ∃ ro, K ro = some r ∧ ro.dst = o.dst ∧ Ran E P g ops rs i o ro := by
  unfold Rg.one at hk
  simp only at hk
  split at hk
  · rename_i f args ts hop
    split at hk
    · rename_i id k hev
      split at hk
      · rename_i hpr
        split at hk
        · rename_i q hq
          split at hk
          · rename_i x h' hta
            split at hk
            · rename_i ro hro
              obtain ⟨y, hy, hK⟩ := Option.bind_eq_some_iff.1 hk
              refine ⟨_, hK, ?_⟩
              -- which objects the arguments' taking turns is told by the taking alone
              have hagr : (⟨g.obs rs i, []⟩ : Hp).Agr h' := by
                have : ∀ {t : Ty} {avs : List AV} {h h' : Hp} {x : Den t}, takeA h t avs = some (x, h') → h.Agr h' := by
                  intro t
                  induction t with
                  | cons a b _ ihb =>
                    intro avs h h' x ht
                    cases avs with
                    | nil => simp [takeA] at ht
                    | cons av r =>
                      simp only [takeA] at ht
                      split at ht
                      · rename_i y h1 e1
                        split at ht
                        · rename_i z h2 e2
                          cases ht
                          refine Hp.Agr.trans ?_ (ihb e2)
                          exact take_agr e1
                        · cases ht
                      · cases ht
                  | nil =>
                    intro avs h h' x ht
                    cases avs with
                    | nil => simp only [takeA] at ht; cases ht; exact Hp.Agr.refl _
                    | cons av r => simp [takeA] at ht
                  | _ => intro avs h h' x ht; cases avs <;> simp [takeA] at ht
                exact this hta
              have hagr : (⟨g.obs rs i, []⟩ : Hp).Agr (if noSl q.rs = true then ⟨g.obs rs i, []⟩ else h') := by
                split
                · exact Hp.Agr.refl _
                · exact hagr
              obtain ⟨r1, r2, r3, r4, r5, r6, r7⟩ := rcd_ok hro hagr
              refine ⟨r1, ⟨⟨r3.ms⟩, fun c a hP ho hobj hsl => ⟨hw c a hP ho hobj hsl, fun next Q hn => ?_⟩⟩⟩
              have hevx := ev_ok hkn ho hsl
              have hf := hevx f
              rw [hev] at hf
              obtain ⟨cs, hfv, hcap⟩ := hf
              have hfv : a.eval f = .func (.func id) #[] cs.toArray := by simpa using hfv
              subst hP
              have hcon : conK E id (args.toList.map (g.ev E kn rs i) ++ unPr k) ⟨g.obs rs i, []⟩ (AV × Hp) (fun av h => some (av, h)) = some (resAV q.rs y, (if noSl q.rs = true then ⟨g.obs rs i, []⟩ else h')) := by
                unfold conK
                rw [hq]
                simp only
                rw [hta]
                simp only [hy, Option.bind_some]
              obtain ⟨h1, h2⟩ := conK_ok (Q := fun v w' => next (a.put o.dst v) w') hC hcon ho hobj ((AVs.map hevx _).append (unPr_ok hpr hcap)) (fun av h'' c' v e1 e2 e3 e4 e5 e6 => by
                cases e1
                refine hn c' v e3 e4 (by rw [e2, r4, hobj]) (fun q' => by rw [e2, r5 q', hobj]) (fun q' => ?_) ?_ e6
                · rw [e2]; exact obs_noH (P := fun p => ((if noSl q.rs = true then (⟨g.obs rs i, []⟩ : Hp) else h').objs.getD q' .free).lo p) e2 (r6 q')
                · have : ∀ {t : Ty} {x : Den t} {p : Nat → Prop}, (prOf t x).lo p := by
                    intro t
                    induction t with
                    | cons a b _ ihb => intro x p; exact ⟨trivial, ihb⟩
                    | _ => intro x p; trivial
                  unfold resAV
                  split
                  · trivial
                  · exact this)
              unfold Oper.wp
              have hrun : (execOp a.eval o).run c.P c.w = (callFunc id (args.toList.map a.eval ++ cs).toArray).run c.P c.w := by
                have : (#[] ++ args.map a.eval) ++ cs.toArray = (args.toList.map a.eval ++ cs).toArray := by
                  apply Array.ext'; simp
                rw [← this]
                simp [execOp, hop, resolve, hfv, Deferred.ofValue, invoke]
              rw [hrun, h1]
              refine h2.mono fun e w' he => ?_
              cases e with
              | returned v => exact he
              | panicked ch => exact he.elim
              | outgrown => exact he.elim
            · cases hk
          · cases hk
        · cases hk
      · cases hk
    · cases hk
  · rename_i op hop
    split at hk
    · rename_i gu av h' hv
      split at hk
      · rename_i hgu
        split at hk
        · rename_i ro hro
          have hv' : opV E ⟨g.obs rs i, []⟩ (g.n0 + i) (g.ev E kn rs i) o.type o.op = some (gu, av, h') := hv
          by_cases hex : ∃ (c : Cx) (a : Act), c.P = P ∧ c.Ok E ∧ c.objs = g.obs rs i ∧ (∀ t, AVL c (g.slot [] rs i t) [a.tmps.getD t undef])
          · obtain ⟨c0, a0, p1, p2, p3, p4⟩ := hex
            subst p1
            obtain ⟨_, _, _, _, _, _, _, _, hagr, _⟩ := opV_ok (o := o) (ρ := a0.eval) hE p2 p3 (ev_ok hkn p2 p4) hv' hgu
            obtain ⟨r1, r2, r3, r4, r5, r6, r7⟩ := rcd_ok hro hagr
            refine ⟨ro, hk, r1, r3, fun c a hP ho hobj hsl => ⟨hw c a hP ho hobj hsl, fun next Q hn => ?_⟩⟩
            have hE' : E.Ok c.P := by rw [hP]; exact hE
            obtain ⟨c', n, v, h1, h2, h3, h4, h5, h6, h7⟩ := opV_ok (o := o) (ρ := a.eval) hE' ho hobj (ev_ok hkn ho hsl) hv' hgu
            have := hn c' v h4 h5 (by rw [h3, r4, hobj]) (fun q' => by rw [h3, r5 q', hobj]) (fun q' => by rw [h3]; exact obs_noH (P := fun p => (h'.objs.getD q' .free).lo p) h3 (r6 q'))
              (by rw [r2]; exact obs_noH (P := fun p => av.lo p) h3 r7) (by rw [r2]; exact h7)
            rw [hP] at h1
            unfold Oper.wp
            rw [h1]
            cases n <;> simp [nextV] at h2
            · subst h2; exact this
            · subst h2; exact this
          · -- no context fits the view: nothing is left to say
            unfold Rg.rcd at hro
            split at hro
            · rename_i hc
              have hro' : g.rcd i o.dst av ⟨g.obs rs i, []⟩ h' = some ro := by unfold Rg.rcd; rw [if_pos hc]; exact hro
              cases hro
              refine ⟨_, hk, rfl, ⟨fun q ob hq => ?_⟩, fun c a hP ho hobj hsl => absurd ⟨c, a, hP, ho, hobj, hsl⟩ hex⟩
              simp only [Bool.and_eq_true] at hc
              obtain ⟨⟨⟨_, c2⟩, _⟩, _⟩ := hc
              have hq : look (h'.dO.map fun q => (q, h'.get q)) q = some ob := hq
              rw [look_map] at hq
              split at hq
              · rename_i hm
                cases hq
                have := all_contains c2 hm
                simp only [Bool.and_eq_true, Bool.not_eq_true'] at this
                obtain ⟨⟨⟨⟨⟨k1, k2⟩, k3⟩, k4⟩, k5⟩, k6⟩ := this
                have hq : q < g.B.length := by simpa using k5
                refine ⟨k1, k2, k3, k4, hq, fun hlt => ?_, fun hge => ?_⟩
                · rw [if_pos (by simpa using hlt)] at k6; exact k6
                · rw [if_neg (by simpa using hge)] at k6
                  simp only [Bool.or_eq_true] at k6
                  rcases k6 with k6 | k6
                  · exact .inl (Nat.eq_of_beq_eq_true k6)
                  · right
                    have e : (g.obs rs i).getD q .free = g.ob rs i q := by unfold Rg.obs; rw [tab_get hq, Nat.zero_add]
                    have k6 : ((g.obs rs i).getD q .free).mut = true := k6
                    rw [e] at k6; exact k6
              · cases hq
            · cases hro
        · cases hk
      · cases hk
    · cases hk
end Go.Sy
namespace Go.Sy
open Go Go.RowKit Go.Lib

theorem slI_ok {kn : List (Nat × Bool)} {S : Nat → Bool} {t : Nat} {d : AV} {j : Nat} : ∀ {rs : List ORes}, lastR slI rs S t none = some j →
    ∃ r, atR rs j = some r ∧ r.dst = some t ∧ lastR (slK kn) rs S t d = (match look kn j with | some b => .kb b | none => r.av) := by
  intro rs
  induction rs with
  | nil => intro h; cases h
  | cons y rs ih =>
    intro h
    have hy : atR (y :: rs) rs.length = some y := by simp [atR, Nat.beq_refl]
    have tl : lastR slI rs S t none = some j → ∃ r, atR (y :: rs) j = some r ∧ r.dst = some t ∧ lastR (slK kn) rs S t d = (match look kn j with | some b => .kb b | none => r.av) := by
      intro h
      obtain ⟨r, h1, h2, h3⟩ := ih h
      refine ⟨r, ?_, h2, h3⟩
      have := atR_some h1
      simp only [atR]
      rw [if_neg (fun e => by have := Nat.eq_of_beq_eq_true e; omega)]
      exact h1
    simp only [lastR] at h ⊢
    by_cases hS : S rs.length = true
    · rw [if_pos hS] at h ⊢
      cases hd : y.dst with
      | none => simp only [slI, slK, hd, look] at h ⊢; exact tl h
      | some q =>
        simp only [slI, slK, hd, look] at h ⊢
        by_cases e : Nat.beq q t = true
        · simp only [e, if_true] at h ⊢
          cases h
          have := Nat.eq_of_beq_eq_true e
          subst this
          exact ⟨y, hy, hd, rfl⟩
        · simp only [e] at h ⊢; exact tl h
    · rw [if_neg hS] at h ⊢; exact tl h
theorem go_ok {E : Env} {P : Program} {g : Rg} {ops : Array Oper} (hE : E.Ok P) (hC : ∀ f k, look E.con f = some k → Sat P E.gl f k) (hops : ops.toList = g.ops) {R : Type} {K : List ORes → Option R} {r : R} :
    ∀ {l : List Oper} {i : Nat} {kn : List (Nat × Bool)} {rs : List ORes}, rs.length = i → KnOk kn rs → g.go E R K l i kn rs = some r →
    ∃ F, K F = some r ∧ (∃ p, F = p ++ rs) ∧ F.length = i + l.length ∧ ∀ (k : Nat) (o : Oper), l[k]? = some o →
      ∃ rk rsk, atR F (i + k) = some rk ∧ rsk.length = i + k ∧ (∃ p, F = p ++ rsk) ∧ Fct E P g ops rsk (i + k) o rk := by
  intro l
  induction l with
  | nil => intro i kn rs hl _ h; exact ⟨rs, h, ⟨[], rfl⟩, by simp [hl], fun k o hk => by simp at hk⟩
  | cons o l ih =>
    intro i kn rs hl hkn h
    -- going on after one operation
    have next : ∀ (kn' : List (Nat × Bool)) (ro : ORes), KnOk kn' rs → g.go E R K l (i + 1) kn' (ro :: rs) = some r → Fct E P g ops rs i o ro →
        ∃ F, K F = some r ∧ (∃ p, F = p ++ rs) ∧ F.length = i + (o :: l).length ∧ ∀ (k : Nat) (o' : Oper), (o :: l)[k]? = some o' →
          ∃ rk rsk, atR F (i + k) = some rk ∧ rsk.length = i + k ∧ (∃ p, F = p ++ rsk) ∧ Fct E P g ops rsk (i + k) o' rk := by
      intro kn' ro hkn' hgo hf
      obtain ⟨F, h1, ⟨p, h2⟩, h3, h4⟩ := ih (rs := ro :: rs) (by simp [hl]) (fun j b hj => by
        obtain ⟨r', q1, q2⟩ := hkn' j b hj
        refine ⟨r', ?_, q2⟩
        have := atR_some q1
        simp only [atR]
        rw [if_neg (fun e => by have := Nat.eq_of_beq_eq_true e; omega)]
        exact q1) hgo
      refine ⟨F, h1, ⟨p ++ [ro], by rw [h2]; simp⟩, by rw [h3]; simp; omega, fun k o' hk => ?_⟩
      cases k with
      | zero =>
        simp at hk; subst hk
        refine ⟨ro, rs, ?_, hl, ⟨p ++ [ro], by rw [h2]; simp⟩, hf⟩
        rw [h2, atR_app (by simp [hl])]
        simp [atR, hl, Nat.beq_refl]
      | succ k =>
        obtain ⟨rk, rsk, q1, q2, q3, q4⟩ := h4 k o' (by simpa using hk)
        have e : i + (k + 1) = i + 1 + k := by omega
        rw [e]; exact ⟨rk, rsk, q1, q2, q3, q4⟩
    have yes : ∀ (kn' : List (Nat × Bool)), KnOk kn' rs → (g.one E kn' rs i o R fun ro => g.go E R K l (i + 1) kn' (ro :: rs)) = some r →
        (∀ (c : Cx) (a : Act), c.P = P → c.Ok E → c.objs = g.obs rs i → (∀ t, AVL c (g.slot [] rs i t) [a.tmps.getD t undef]) → Region.wanted o (yielded ops a.tmps) = true) →
        ∃ F, K F = some r ∧ (∃ p, F = p ++ rs) ∧ F.length = i + (o :: l).length ∧ ∀ (k : Nat) (o' : Oper), (o :: l)[k]? = some o' →
          ∃ rk rsk, atR F (i + k) = some rk ∧ rsk.length = i + k ∧ (∃ p, F = p ++ rsk) ∧ Fct E P g ops rsk (i + k) o' rk := by
      intro kn' hkn' hone hw
      obtain ⟨ro, q1, q2, q3⟩ := one_ok hE hC hone hkn' hw
      exact next kn' ro hkn' q1 ⟨q2, .inl q3⟩
    have no : ∀ (kn' : List (Nat × Bool)), KnOk kn' rs → g.go E R K l (i + 1) kn' (⟨o.dst, .tup .un, []⟩ :: rs) = some r →
        (∀ (c : Cx) (a : Act), c.P = P → c.Ok E → c.objs = g.obs rs i → (∀ t, AVL c (g.slot [] rs i t) [a.tmps.getD t undef]) → Region.wanted o (yielded ops a.tmps) = false) →
        ∃ F, K F = some r ∧ (∃ p, F = p ++ rs) ∧ F.length = i + (o :: l).length ∧ ∀ (k : Nat) (o' : Oper), (o :: l)[k]? = some o' →
          ∃ rk rsk, atR F (i + k) = some rk ∧ rsk.length = i + k ∧ (∃ p, F = p ++ rsk) ∧ Fct E P g ops rsk (i + k) o' rk := by
      intro kn' hkn' hgo hw
      exact next kn' _ hkn' hgo ⟨rfl, .inr ⟨rfl, rfl, hw⟩⟩
    simp only [Rg.go] at h
    unfold Rg.gd at h
    cases hgd : o.guard with
    | none =>
      rw [hgd] at h
      exact yes kn hkn h fun c a _ _ _ _ => by simp [Region.wanted, hgd]
    | some jw =>
      obtain ⟨j, want⟩ := jw
      rw [hgd] at h
      simp only at h
      cases hd : (g.ops[j]?).bind (·.dst) with
      | none => rw [hd] at h; cases h
      | some d =>
        rw [hd] at h
        simp only at h
        have wnt : ∀ (a : Act) b, a.tmps.getD d undef = .bool b → Region.wanted o (yielded ops a.tmps) = (b == want) := by
          intro a b hb
          simp [Region.wanted, hgd, yielded_of (ops := ops) (by rw [hops]; exact hd) hb]
        cases hx : g.slot kn rs i d with
        | kb b =>
          rw [hx] at h
          simp only at h
          have hv : ∀ (c : Cx) (a : Act), (∀ t, AVL c (g.slot [] rs i t) [a.tmps.getD t undef]) → a.tmps.getD d undef = .bool b := by
            intro c a hsl
            have h1 := slot_kn hkn (hsl d)
            rw [hx] at h1
            have h1 : [a.tmps.getD d undef] = [Value.bool b] := h1
            simpa using h1
          by_cases e : b = want
          · rw [if_pos e] at h
            exact yes kn hkn h fun c a _ _ _ hsl => by rw [wnt a b (hv c a hsl)]; simp [e]
          · rw [if_neg e] at h
            exact no kn hkn h fun c a _ _ _ hsl => by rw [wnt a b (hv c a hsl)]; simp [e]
        | v t b =>
          rw [hx] at h
          cases t with
          | bool =>
            simp only at h
            cases hw : lastR slI rs (g.bit i) d none with
            | none => rw [hw] at h; cases h
            | some j' =>
              rw [hw] at h
              simp only at h
              have hvis : g.visS i d g.ops 0 = true := by
                cases hv : g.visS i d g.ops 0 with
                | true => rfl
                | false => unfold Rg.slot at hx; rw [if_neg (by rw [hv]; simp)] at hx; cases hx
              obtain ⟨ro, q1, q2, q3⟩ := slI_ok (kn := kn) (d := g.tm.getD d .top) hw
              obtain ⟨ro', p1, p2, p3⟩ := slI_ok (kn := []) (d := g.tm.getD d .top) hw
              rw [q1] at p1; cases p1
              unfold Rg.slot at hx
              rw [if_pos hvis, q3] at hx
              have hav : ro.av = .v .bool b := by
                cases hl : look kn j' with
                | some b' => rw [hl] at hx; cases hx
                | none => rw [hl] at hx; exact hx
              have hv : ∀ (c : Cx) (a : Act), (∀ t, AVL c (g.slot [] rs i t) [a.tmps.getD t undef]) → a.tmps.getD d undef = .bool b := by
                intro c a hsl
                have h1 := hsl d
                unfold Rg.slot at h1
                rw [if_pos hvis, p3] at h1
                have h1 : AVL c ro.av [a.tmps.getD d undef] := h1
                rw [hav] at h1
                obtain ⟨u, hu, hb⟩ := h1
                have hb := VRep_bool hb
                cases hu; exact hb
              have hkn2 : KnOk ((j', b) :: kn) rs := by
                intro j2 b2 hj
                simp only [look] at hj
                split at hj
                · rename_i e
                  have := Nat.eq_of_beq_eq_true e
                  subst this
                  cases hj
                  exact ⟨ro, q1, hav⟩
                · exact hkn j2 b2 hj
              cases b with
              | true =>
                simp only [cond_true] at h
                by_cases e : true = want
                · rw [if_pos e] at h
                  exact yes _ hkn2 h fun c a _ _ _ hsl => by rw [wnt a _ (hv c a hsl)]; simp [e]
                · rw [if_neg e] at h
                  exact no _ hkn2 h fun c a _ _ _ hsl => by rw [wnt a _ (hv c a hsl)]; simpa using e
              | false =>
                simp only [cond_false] at h
                by_cases e : false = want
                · rw [if_pos e] at h
                  exact yes _ hkn2 h fun c a _ _ _ hsl => by rw [wnt a _ (hv c a hsl)]; simp [e]
                · rw [if_neg e] at h
                  exact no _ hkn2 h fun c a _ _ _ hsl => by rw [wnt a _ (hv c a hsl)]; simpa using e
          | _ => cases h
        | tup q =>
          rw [hx] at h
          cases q with
          | un =>
            have hv : ∀ (c : Cx) (a : Act), (∀ t, AVL c (g.slot [] rs i t) [a.tmps.getD t undef]) → a.tmps.getD d undef = undef := by
              intro c a hsl
              have h1 := slot_kn hkn (hsl d)
              rw [hx] at h1
              obtain ⟨cs, hu, hcs⟩ := h1
              have hcs : cs = [] := hcs
              subst hcs
              simpa [undef] using hu
            exact no kn hkn h fun c a _ _ _ hsl => by
              simp [Region.wanted, hgd, yielded_un (ops := ops) (by rw [hops]; exact hd) (hv c a hsl)]
          | _ => cases h
        | _ => rw [hx] at h; cases h
end Go.Sy
namespace Go.Sy
open Go Go.RowKit Go.Lib

def isFr : Ob → Bool
  | .free => true
  | _ => false
theorem isFr_nf {o : Ob} (h : (o matches .free) = false) : isFr o = false := by cases o <;> first | rfl | cases h
theorem isFr_eq {o : Ob} (h : isFr o = true) : o = .free := by cases o <;> first | rfl | cases h
theorem leads_nf {a b : Ob} (h : a.leads b) (k : isFr a = false) : isFr b = false := by cases a <;> cases b <;> simp_all [Ob.leads, isFr]
/-- Numbers that stand for nothing stand for no memory either. -/
theorem Cx.tidy {E : Env} {c d : Cx} {L : List Ob} (hd : d.Ok E) (hev : c.Evol d) (hL : ∀ o, L.getD o .free = d.objs.getD o .free) :
    ∃ d', d'.w = d.w ∧ d'.P = d.P ∧ d'.objs = L ∧ d'.Ok E ∧ c.Evol d' ∧ (∀ o, d'.objs.getD o .free = .free → blkOf (d'.φ o) = none) ∧ (∀ av vs, AVL d av vs → AVL d' av vs) := by
  let s : Nat → Option Nat := fun o => if isFr (L.getD o .free) = true then none else some o
  have hs : ∀ o o', s o = some o' → o = o' ∧ isFr (L.getD o .free) = false := by
    intro o o' h
    show o = o' ∧ _
    have h : (if isFr (L.getD o .free) = true then none else some o) = some o' := h
    split at h
    · cases h
    · rename_i hx; cases h; exact ⟨rfl, by simpa using hx⟩
  have h1 : ∀ o o', s o = some o' → (L.getD o .free).mut = true → (d.objs.getD o' .free).mut = true ∨ blkOf (d.φ o') = none := fun o o' h hm => by
    obtain ⟨rfl, _⟩ := hs o o' h
    rw [hL] at hm; exact .inl hm
  have phi : ∀ o, isFr (L.getD o .free) = false → (d.re L s).φ o = d.φ o := fun o h => by
    show (match s o with | some o' => d.φ o' | none => .slice none 0 0) = _
    have : s o = some o := if_neg (by rw [h]; simp)
    rw [this]
  have mv : Mv d (d.re L s) (fun _ => True) := by
    refine ⟨rfl, Cx.re_okr h1, Cx.re_okb h1, fun o p u _ hr => ?_, fun o u _ hr => ?_⟩
    · unfold RefRel at hr ⊢
      have e : (d.re L s).objs.getD o .free = d.objs.getD o .free := hL o
      rw [e]
      cases hx : isFr (L.getD o .free) with
      | true => rw [← hL o, isFr_eq hx] at hr; exact hr.elim
      | false => rw [phi o hx]; exact hr
    · unfold RslRel at hr ⊢
      have e : (d.re L s).objs.getD o .free = d.objs.getD o .free := hL o
      rw [e]
      cases hx : isFr (L.getD o .free) with
      | true => rw [← hL o, isFr_eq hx] at hr; exact hr.elim
      | false => rw [phi o hx]; exact hr
  refine ⟨d.re L s, rfl, rfl, rfl, ?_, ?_, fun o ho => ?_, fun av vs hv => hv.mv mv (AV.lo_mono (fun _ _ => trivial) hv.lo)⟩
  · refine Cx.re_ok hd h1 (fun o p a hne ho hp => ?_) (fun o => ?_) (fun o e t l ho b hb => ?_)
    · obtain ⟨rfl, _⟩ := hs o a ho
      obtain ⟨rfl, _⟩ := hs p o hp
      exact absurd rfl hne
    · cases hx : isFr (L.getD o .free) with
      | true => rw [isFr_eq hx]; trivial
      | false =>
        rw [phi o hx, hL]
        exact ORel.mv mv (Ob.lo_mono (fun _ _ => trivial) (hd.objs o).lo) (hd.objs o)
    · have hx : isFr (L.getD o .free) = false := by rw [ho]; rfl
      rw [phi o hx] at hb
      exact hd.froz o e t l (by rw [← hL]; exact ho) b hb
  · refine Cx.re_evol hev h1 fun o ho => ?_
    have h3 := leads_nf (hev.kinds o) (isFr_nf ho)
    rw [← hL] at h3
    exact ⟨if_neg (by rw [h3]; simp), by rw [hL]; exact hev.kinds o⟩
  · show blkOf (match s o with | some o' => d.φ o' | none => .slice none 0 0) = none
    have : s o = none := if_pos (by
      have ho : L.getD o .free = .free := ho
      rw [ho]; rfl)
    rw [this]; simp [blkOf]
theorem shape_leads {b x y : Ob} (hb : b.mut = true) (h1 : b.leads x) (hx : x.mut = true) (h2 : b.leads y) (hy : y.mut = true) : x.leads y := by
  cases b <;> cases x <;> cases y <;> simp_all [Ob.leads, Ob.mut]
theorem msk_hid {b : Ob} (h : b.mut = true) : b.msk.isHid = true := by
  cases b with
  | row e t l own => cases own <;> first | rfl | cases h
  | free => cases h
  | dead => cases h
  | _ => rfl
theorem msk_same {b : Ob} (h : b.mut = false) : b.msk = b := by
  cases b with
  | row e t l own => cases own <;> first | rfl | cases h
  | box t b => cases h
  | _ => rfl
theorem mut_nf {b : Ob} (h : b.mut = true) : isFr b = false := by cases b <;> first | rfl | cases h
/-- The shape that an object has from its making on. -/
def Rg.shp (g : Rg) (F : List ORes) (q : Nat) : Ob :=
  if q < g.n0 then g.base q else match atR F (q - g.n0) with
    | some r => (match look r.ms q with | some ob => ob | none => .free)
    | none => .free
/-- What must hold of a region's text. -/
structure RgOk (g : Rg) (ops : Array Oper) : Prop where
  txt : ops.toList = g.ops
  topo : ∀ (i : Nat) (o : Oper), ops[i]? = some o → ∀ e ∈ o.after.toList, Region.binds .any e = true → e.on < i
  M : g.M = mkL g.ops []
  dst : ∀ (i : Nat) (o : Oper) (d : Nat), g.ops[i]? = some o → o.dst = some d → g.visS i d g.ops 0 = true ∧ d < g.tm.length
  B : g.B.length = g.n0 + g.ops.length
  pad : ∀ q, g.n0 ≤ q → g.base q = .free
theorem bit_lt {g : Rg} {ops : Array Oper} (h : RgOk g ops) : ∀ i j, i < g.ops.length → g.bit i j = true → j < i := by
  intro i
  induction i using Nat.strongRecOn with
  | _ i ih =>
    intro j hi hb
    have ho : g.ops[i]? = some g.ops[i] := List.getElem?_eq_getElem hi
    have hb' : ((mkL g.ops []).getD (([] : List Nat).length + i) 0).testBit j = true := by
      unfold Rg.bit at hb; rw [h.M] at hb; simpa using hb
    obtain ⟨e, h1, h2, h3⟩ := mkL_bit ho hb'
    have h4 := h.topo i g.ops[i] (by rw [← Array.getElem?_toList, h.txt]; exact ho) e h1 h2
    rcases h3 with h3 | h3
    · omega
    · have : g.bit e.on j = true := by unfold Rg.bit; rw [h.M]; exact h3
      have := ih e.on h4 j (by omega) this
      omega
theorem bit_in {g : Rg} {ops : Array Oper} (h : RgOk g ops) {S : Nat → Bool} (hS : ∀ i, S i = true → ∀ j, g.bit i j = true → S j = true) {i : Nat} {o : Oper} (ho : ops[i]? = some o)
    (hr : ∀ e ∈ o.after.toList, Region.binds .any e = true → S e.on = true) : ∀ j, g.bit i j = true → S j = true := by
  intro j hb
  have ho' : g.ops[i]? = some o := by rw [← h.txt, Array.getElem?_toList]; exact ho
  have hb' : ((mkL g.ops []).getD (([] : List Nat).length + i) 0).testBit j = true := by
    unfold Rg.bit at hb; rw [h.M] at hb; simpa using hb
  obtain ⟨e, h1, h2, h3⟩ := mkL_bit ho' hb'
  have h4 := hr e h1 h2
  rcases h3 with h3 | h3
  · rw [← h3]; exact h4
  · exact hS e.on h4 j (by unfold Rg.bit; rw [h.M]; exact h3)
/-- Comparable with an operation that is ready: it goes ahead just if it is done. -/
theorem cmp_eq {g : Rg} {ops : Array Oper} (h : RgOk g ops) {S : Nat → Bool} (hS : ∀ i, S i = true → ∀ j, g.bit i j = true → S j = true) {i : Nat} (hi : i < g.ops.length) (hni : S i = false)
    (hin : ∀ j, g.bit i j = true → S j = true) {j : Nat} (hj : j < g.ops.length) (hc : g.cmp i j = true) : g.bit i j = S j := by
  unfold Rg.cmp at hc
  simp only [Bool.or_eq_true] at hc
  rcases hc with (hc | hc) | hc
  · have := Nat.eq_of_beq_eq_true hc
    subst this
    rw [hni]
    cases hb : g.bit i i with
    | false => rfl
    | true => have := bit_lt h i i hi hb; omega
  · rw [hc, hin j hc]
  · have h1 : S j = false := by
      cases hs : S j with
      | false => rfl
      | true => rw [hS j hs i hc] at hni; cases hni
    rw [h1]
    cases hb : g.bit i j with
    | false => rfl
    | true =>
      have h2 := bit_lt h i j hi hb
      have h3 := bit_lt h j i hj hc
      omega
theorem cmp_lt {g : Rg} {ops : Array Oper} (h : RgOk g ops) {S : Nat → Bool} (hS : ∀ i, S i = true → ∀ j, g.bit i j = true → S j = true) {i : Nat} (hi : i < g.ops.length) (hni : S i = false)
    {j : Nat} (hsj : S j = true) (hc : g.cmp i j = true) : j < i := by
  unfold Rg.cmp at hc
  simp only [Bool.or_eq_true] at hc
  rcases hc with (hc | hc) | hc
  · have := Nat.eq_of_beq_eq_true hc
    subst this
    rw [hni] at hsj; cases hsj
  · exact bit_lt h i j hi hc
  · rw [hS j hsj i hc] at hni; cases hni
end Go.Sy
namespace Go.Sy
open Go Go.RowKit Go.Lib

structure RI (E : Env) (P : Program) (g : Rg) (F : List ORes) (c0 : Cx) (a0 : Act) (S : Nat → Bool) (c : Cx) (a : Act) : Prop where
  P : c.P = P
  ok : c.Ok E
  ev : c0.Evol c
  len : c.objs.length = g.B.length
  obj : ∀ o, c.objs.getD o .free = lastR msF F S o (g.base o)
  slot : ∀ t, AVL c (lastR slF F S t (g.tm.getD t .top)) [a.tmps.getD t undef]
  size : a.tmps.size = g.tm.length
  defers : a.defers = []
  same : ∀ t, (∀ (k : Nat) (o : Oper), g.ops[k]? = some o → o.dst ≠ some t) → a.tmps.getD t undef = a0.tmps.getD t undef
  fr : ∀ o, c.objs.getD o .free = .free → blkOf (c.φ o) = none
  shp : ∀ j r, S j = true → atR F j = some r → ∀ q ob, look r.ms q = some ob → ob.mut = true ∧ (g.shp F q).mut = true ∧ (g.shp F q).leads ob
  dc : ∀ i, S i = true → ∀ j, g.bit i j = true → S j = true
/-- The facts of all operations. -/
structure RF (E : Env) (P : Program) (g : Rg) (ops : Array Oper) (F : List ORes) : Prop where
  len : F.length = g.ops.length
  fct : ∀ (k : Nat) (o : Oper), g.ops[k]? = some o → ∃ rk rsk, atR F k = some rk ∧ rsk.length = k ∧ (∃ p, F = p ++ rsk) ∧ Fct E P g ops rsk k o rk
theorem slK_nil : slK [] = slF := by
  funext j r
  unfold slK slF
  cases r.dst <;> rfl
section
variable {E : Env} {P : Program} {g : Rg} {ops : Array Oper} {F : List ORes}
theorem RF.ent (h : RF E P g ops F) {j : Nat} {r : ORes} (hj : atR F j = some r) {q : Nat} {ob : Ob} (hl : look r.ms q = some ob) :
    (g.G.getD j []).contains q = true ∧ g.visO j q g.G 0 = true ∧ ob.mut = true ∧ q < g.B.length ∧ (q < g.n0 → (g.base q).mut = true) := by
  have hlt := atR_some hj
  rw [h.len] at hlt
  obtain ⟨rk, rsk, h1, _, _, _, h3⟩ := h.fct j _ (List.getElem?_eq_getElem hlt)
  rw [hj] at h1; cases h1
  rcases h3 with h3 | h3
  · obtain ⟨k1, k2, k3, _, k5, k6, _⟩ := h3.1.ms q ob hl
    exact ⟨k1, k2, k3, k5, k6⟩
  · rw [h3.2.1] at hl; cases hl
theorem RF.wrt (h : RF E P g ops F) {j : Nat} {r : ORes} (hj : atR F j = some r) {t : Nat} (hl : (look (slF j r) t).isSome = true) : ∃ o, g.ops[j]? = some o ∧ o.dst = some t ∧ j < g.ops.length := by
  have hlt := atR_some hj
  rw [h.len] at hlt
  obtain ⟨rk, rsk, h1, _, _, h2, _⟩ := h.fct j _ (List.getElem?_eq_getElem hlt)
  rw [hj] at h1; cases h1
  refine ⟨_, List.getElem?_eq_getElem hlt, ?_, hlt⟩
  rw [← h2]
  unfold slF at hl
  cases hd : r.dst with
  | none => rw [hd] at hl; cases hl
  | some d =>
    rw [hd] at hl
    simp only [look] at hl
    split at hl
    · rename_i e; rw [Nat.eq_of_beq_eq_true e]
    · cases hl
variable {c0 : Cx} {a0 : Act} {S : Nat → Bool} {c : Cx} {a : Act} {i : Nat} {o : Oper}
/-- An object that operation i sees whole is as its view says. -/
theorem vis_obj (hR : RgOk g ops) (hF : RF E P g ops F) (hI : RI E P g F c0 a0 S c a) (hi : i < g.ops.length) (hni : S i = false) (hin : ∀ j, g.bit i j = true → S j = true) {q : Nat} (hv : g.visO i q g.G 0 = true) :
    lastR msF F (g.bit i) q (g.base q) = lastR msF F S q (g.base q) := by
  refine lastR_congr fun j r hj hl => ?_
  obtain ⟨ob, hob⟩ := Option.isSome_iff_exists.1 hl
  have h1 := (hF.ent hj hob).1
  have h2 := visO_spec hv j h1
  rw [Nat.zero_add] at h2
  have hlt := atR_some hj
  rw [hF.len] at hlt
  exact cmp_eq hR hI.dc hi hni hin hlt h2
theorem rg_seen (hR : RgOk g ops) (hF : RF E P g ops F) (hI : RI E P g F c0 a0 S c a) (hi : i < g.ops.length) (hni : S i = false) (hin : ∀ j, g.bit i j = true → S j = true) {rsk : List ORes} (hl : rsk.length = i) (hp : ∃ p, F = p ++ rsk) :
    ∀ q, Seen c ((g.obs rsk i).getD q .free) q ∧ (g.visO i q g.G 0 = true → (g.obs rsk i).getD q .free = c.objs.getD q .free) := by
  intro q
  obtain ⟨p, hp⟩ := hp
  have hsuf : ∀ d, lastR msF rsk (g.bit i) q d = lastR msF F (g.bit i) q d := fun d => by
    rw [hp, lastR_app]
    intro j hj
    cases hb : g.bit i j with
    | false => rfl
    | true => have := bit_lt hR i j hi hb; omega
  rcases Nat.lt_or_ge q g.B.length with hq | hq
  · have e : (g.obs rsk i).getD q .free = g.ob rsk i q := by unfold Rg.obs; rw [tab_get hq, Nat.zero_add]
    rw [e]
    unfold Rg.ob
    rw [hsuf]
    by_cases hv : g.visO i q g.G 0 = true
    · rw [if_pos hv, vis_obj hR hF hI hi hni hin hv, ← hI.obj]
      exact ⟨.inl rfl, fun _ => rfl⟩
    · rw [if_neg hv]
      refine ⟨?_, fun h => absurd h hv⟩
      rcases lastR_cases (F := msF) (rs := F) (S := g.bit i) (k := q) (d := g.base q) with ⟨j, r, x, h1, h2, h3, h4, _⟩ | ⟨h1, h2⟩
      · rw [h4]
        obtain ⟨s1, s2, s3⟩ := hI.shp j r (hin j h2) h1 q x h3
        have hnf := mut_nf s1
        have hm : g.hide q x = x.msk := Rg.hide_nf (fun e => by rw [e] at hnf; cases hnf)
        rw [hm]
        rcases lastR_cases (F := msF) (rs := F) (S := S) (k := q) (d := g.base q) with ⟨j', r', y, q1, q2, q3, q4, _⟩ | ⟨q1, _⟩
        · obtain ⟨t1, t2, t3⟩ := hI.shp j' r' q2 q1 q y q3
          refine .inr (.inl ⟨x, rfl, s1, ?_, ?_⟩)
          · rw [hI.obj, q4]; exact shape_leads s2 s3 s1 t3 t1
          · rw [hI.obj, q4]; exact t1
        · have := q1 j r h1 (hin j h2)
          have h3 : look (msF j r) q = some x := h3
          rw [this] at h3; cases h3
      · rw [h2]
        rcases lastR_cases (F := msF) (rs := F) (S := S) (k := q) (d := g.base q) with ⟨j', r', y, q1, q2, q3, q4, _⟩ | ⟨q1, q4⟩
        · obtain ⟨t1, t2, t3⟩ := hI.shp j' r' q2 q1 q y q3
          rcases Nat.lt_or_ge q g.n0 with hn | hn
          · have hbm := (hF.ent q1 q3).2.2.2.2 hn
            have hnf := mut_nf hbm
            have hm : g.hide q (g.base q) = (g.base q).msk := Rg.hide_nf (fun e => by rw [e] at hnf; cases hnf)
            rw [hm]
            have hsb : g.shp F q = g.base q := by unfold Rg.shp; rw [if_pos hn]
            rw [hsb] at t3
            refine .inr (.inl ⟨_, rfl, hbm, ?_, ?_⟩)
            · rw [hI.obj, q4]; exact t3
            · rw [hI.obj, q4]; exact t1
          · rw [hR.pad q hn]
            show Seen c (if Nat.blt q g.n0 = true then .free else .hid0) q
            rw [if_neg (by simpa using hn)]
            refine .inr (.inr ⟨rfl, .inl ?_⟩)
            rw [hI.obj, q4]; exact t1
        · rcases Nat.lt_or_ge q g.n0 with hn | hn
          · have hc : c.objs.getD q .free = g.base q := by rw [hI.obj, q4]
            cases hbm : (g.base q).mut with
            | true =>
              have hnf := mut_nf hbm
              have hm : g.hide q (g.base q) = (g.base q).msk := Rg.hide_nf (fun e => by rw [e] at hnf; cases hnf)
              rw [hm]
              exact .inr (.inl ⟨_, rfl, hbm, by rw [hc]; exact Ob.leads_refl _, by rw [hc]; exact hbm⟩)
            | false =>
              left
              rw [hc]
              have hs := msk_same hbm
              cases hx : g.base q with
              | free => show (if Nat.blt q g.n0 = true then Ob.free else .hid0) = _; rw [if_pos (by simpa using hn)]
              | _ => rw [hx] at hs; exact hs
          · have hc : c.objs.getD q .free = .free := by rw [hI.obj, q4, hR.pad q hn]
            rw [hR.pad q hn]
            show Seen c (if Nat.blt q g.n0 = true then .free else .hid0) q
            rw [if_neg (by simpa using hn)]
            exact .inr (.inr ⟨rfl, .inr ⟨hc, hI.fr q hc⟩⟩)
  · have e1 : (g.obs rsk i).getD q .free = .free := getD_ge (by unfold Rg.obs; rw [tab_len]; exact hq)
    have e2 : c.objs.getD q .free = .free := getD_ge (by rw [hI.len]; exact hq)
    rw [e1, e2]
    exact ⟨.inl e2.symm, fun _ => rfl⟩
theorem rg_slot (hR : RgOk g ops) (hF : RF E P g ops F) (hI : RI E P g F c0 a0 S c a) (hi : i < g.ops.length) (hni : S i = false) (hin : ∀ j, g.bit i j = true → S j = true) {rsk : List ORes} (hl : rsk.length = i) (hp : ∃ p, F = p ++ rsk) (t : Nat) :
    AVL c (g.slot [] rsk i t) [a.tmps.getD t undef] := by
  obtain ⟨p, hp⟩ := hp
  unfold Rg.slot
  split
  · rename_i hv
    rw [slK_nil]
    have hsuf : lastR slF rsk (g.bit i) t (g.tm.getD t .top) = lastR slF F (g.bit i) t (g.tm.getD t .top) := by
      rw [hp, lastR_app]
      intro j hj
      cases hb : g.bit i j with
      | false => rfl
      | true => have := bit_lt hR i j hi hb; omega
    have hcg : lastR slF F (g.bit i) t (g.tm.getD t .top) = lastR slF F S t (g.tm.getD t .top) := by
      refine lastR_congr fun j r hj hs => ?_
      obtain ⟨o, h1, h2, h3⟩ := hF.wrt hj hs
      have := visS_spec hv j o h1 h2
      rw [Nat.zero_add] at this
      exact cmp_eq hR hI.dc hi hni hin h3 this
    rw [hsuf, hcg]; exact hI.slot t
  · exact ⟨_, rfl⟩
end
end Go.Sy
namespace Go.Sy
open Go Go.RowKit Go.Lib

section
variable {E : Env} {P : Program} {g : Rg} {ops : Array Oper} {F : List ORes} {c0 : Cx} {a0 : Act} {S T : Nat → Bool} {c : Cx} {a : Act} {i : Nat} {o : Oper}
/-- After operation i the invariant holds of the larger set. -/
theorem rg_next (hR : RgOk g ops) (hF : RF E P g ops F) (hI : RI E P g F c0 a0 S c a) (ho : g.ops[i]? = some o) (hi : i < g.ops.length) (hni : S i = false) (hin : ∀ j, g.bit i j = true → S j = true)
    (hT : ∀ j, T j = (S j || Nat.beq j i)) {r : ORes} (hr : atR F i = some r) (hrd : r.dst = o.dst) {d : Cx} {v : Value} (hok : d.Ok E) (hev : c.Evol d) (hlen : d.objs.length = g.B.length)
    (hobj : ∀ q, d.objs.getD q .free = match look r.ms q with | some ob => ob | none => c.objs.getD q .free) (hfr : ∀ q, d.objs.getD q .free = .free → blkOf (d.φ q) = none) (hav : AVL d r.av [v])
    (hshp : ∀ q ob, look r.ms q = some ob → ob.mut = true ∧ (g.shp F q).mut = true ∧ (g.shp F q).leads ob) : RI E P g F c0 a0 T d (a.put o.dst v) := by
  have hTS : ∀ j, T j = true → S j = true ∨ j = i := fun j hj => by
    rw [hT, Bool.or_eq_true] at hj
    rcases hj with hj | hj
    · exact .inl hj
    · exact .inr (Nat.eq_of_beq_eq_true hj)
  refine ⟨hev.P.trans hI.P, hok, hI.ev.trans hev, hlen, fun q => ?_, fun t => ?_, ?_, ?_, fun t ht => ?_, hfr, fun j r' hj hr' q ob hl => ?_, fun k hk j hb => ?_⟩
  · rw [hobj, hI.obj]
    have := lastR_add (F := msF) (S := S) (T := T) (k := q) (d := g.base q) hr hT hni (fun j r' h1 h2 h3 h4 => by
      obtain ⟨ob, hob⟩ := Option.isSome_iff_exists.1 h4
      obtain ⟨ob', hob'⟩ := Option.isSome_iff_exists.1 h3
      have hv := (hF.ent hr hob).2.1
      have hg := (hF.ent h1 hob').1
      have hc := visO_spec hv j hg
      rw [Nat.zero_add] at hc
      exact cmp_lt hR hI.dc hi hni h2 hc)
    rw [this]
    have hm : look (msF i r) q = look r.ms q := rfl
    rw [hm]
    cases look r.ms q <;> rfl
  · have hlt := lastR_add (F := slF) (S := S) (T := T) (k := t) (d := g.tm.getD t .top) hr hT hni (fun j r' h1 h2 h3 h4 => by
      obtain ⟨o1, k1, k2, k3⟩ := hF.wrt h1 h3
      obtain ⟨o2, m1, m2, m3⟩ := hF.wrt hr h4
      have hv := (hR.dst i o2 t m1 m2).1
      have hc := visS_spec hv j o1 k1 k2
      rw [Nat.zero_add] at hc
      exact cmp_lt hR hI.dc hi hni h2 hc)
    rw [hlt]
    cases hd : o.dst with
    | none =>
      have : look (slF i r) t = none := by unfold slF; rw [hrd, hd]; rfl
      rw [this]
      exact (hI.slot t).evol hev
    | some dd =>
      have hdl := (hR.dst i o dd ho hd).2
      have : look (slF i r) t = if Nat.beq dd t = true then some r.av else none := by unfold slF; rw [hrd, hd]; rfl
      rw [this]
      show AVL d _ [(a.tmps.setIfInBounds dd v).getD t undef]
      rw [getD_setIfInBounds, hI.size]
      by_cases e : dd = t
      · subst e
        rw [if_pos (Nat.beq_refl _), if_pos ⟨rfl, hdl⟩]; exact hav
      · rw [if_neg (fun h => e (Nat.eq_of_beq_eq_true h)), if_neg (fun h => e h.1.symm)]
        exact (hI.slot t).evol hev
  · cases o.dst with
    | none => exact hI.size
    | some dd => show (a.tmps.setIfInBounds dd v).size = _; rw [Array.size_setIfInBounds]; exact hI.size
  · cases o.dst <;> exact hI.defers
  · have hne := ht i o ho
    cases hd : o.dst with
    | none => exact hI.same t ht
    | some dd =>
      show (a.tmps.setIfInBounds dd v).getD t undef = _
      rw [getD_setIfInBounds, if_neg (fun h => hne (by rw [hd, h.1]))]
      exact hI.same t ht
  · rcases hTS j hj with h1 | h1
    · exact hI.shp j r' h1 hr' q ob hl
    · subst h1; rw [hr] at hr'; cases hr'; exact hshp q ob hl
  · rcases hTS k hk with h1 | h1
    · rw [hT, hI.dc k h1 j hb]; rfl
    · subst h1; rw [hT, hin j hb]; rfl
theorem rg_step (hR : RgOk g ops) (hF : RF E P g ops F) (hI : RI E P g F c0 a0 S c a) (ho : ops[i]? = some o) (hni : S i = false) (hin : ∀ j, g.bit i j = true → S j = true)
    (hT : ∀ j, T j = (S j || Nat.beq j i)) {Q : Exit → Act → World → Prop} : wpOp P ops Q i (fun a' w' => ∃ c' : Cx, c'.w = w' ∧ RI E P g F c0 a0 T c' a') a c.w := by
  have ho' : g.ops[i]? = some o := by rw [← hR.txt, Array.getElem?_toList]; exact ho
  have hi : i < g.ops.length := (List.getElem?_eq_some_iff.1 ho').1
  obtain ⟨r, rsk, hr, hl, hp, hd, hfc⟩ := hF.fct i o ho'
  have hseen := rg_seen hR hF hI hi hni hin hl hp
  have hslot := rg_slot hR hF hI hi hni hin hl hp
  have hs1 : ∀ q, Seen c ((g.obs rsk i).getD q .free) q := fun q => (hseen q).1
  have hcv : (c.see (g.obs rsk i)).Ok E := Cx.see_ok hI.ok hs1
  have hsl : ∀ t, AVL (c.see (g.obs rsk i)) (g.slot [] rsk i t) [a.tmps.getD t undef] := fun t => AVL.see hs1 (hslot t)
  unfold wpOp
  rw [ho]
  simp only
  rcases hfc with ⟨hms, hran⟩ | ⟨h1, h2, h3⟩
  · obtain ⟨hw, htr⟩ := hran (c.see (g.obs rsk i)) a hI.P hcv rfl hsl
    rw [if_pos hw]
    left
    refine htr _ Q fun d v k1 k2 k3 k4 k5 k6 k7 => ?_
    have hol : (g.obs rsk i).length = g.B.length := by unfold Rg.obs; rw [tab_len]
    let L : List Ob := tab (fun q => match look r.ms q with | some ob => ob | none => c.objs.getD q .free) g.B.length 0
    have hLg : ∀ q, L.getD q .free = match look r.ms q with | some ob => ob | none => c.objs.getD q .free := by
      intro q
      rcases Nat.lt_or_ge q g.B.length with hq | hq
      · show (tab _ g.B.length 0).getD q .free = _
        rw [tab_get hq, Nat.zero_add]
      · rw [getD_ge (l := L) (by show (tab _ _ _).length ≤ q; rw [tab_len]; exact hq)]
        cases hlq : look r.ms q with
        | none => exact (getD_ge (by rw [hI.len]; exact hq)).symm
        | some ob => have := (hF.ent hr hlq).2.2.2.1; omega
    have k4 : ∀ q, d.objs.getD q .free = match look r.ms q with | some ob => ob | none => (g.obs rsk i).getD q .free := k4
    obtain ⟨b1, b2, b3⟩ := Cx.back (L := L) hI.ok hs1 k1 k2 (fun q => by
      rw [hLg]
      cases hlq : look r.ms q with
      | some ob =>
        have hv := (hF.ent hr hlq).2.1
        have e := k4 q
        rw [hlq] at e
        exact .inl ⟨e.symm, (hseen q).2 hv, k5 q⟩
      | none =>
        have e := k4 q
        rw [hlq] at e
        have e : d.objs.getD q .free = (g.obs rsk i).getD q .free := e
        have alt : (g.obs rsk i).getD q .free = c.objs.getD q .free ∨ ((g.obs rsk i).getD q .free).isHid = true := by
          rcases hs1 q with h | ⟨b, h, hb, _⟩ | ⟨h, _⟩
          · exact .inl h
          · right; rw [h]; exact msk_hid hb
          · right; rw [h]; rfl
        rcases alt with h | h
        · exact .inl ⟨by rw [e, h], h, k5 q⟩
        · exact .inr ⟨rfl, e, h⟩)
    obtain ⟨d', t1, t2, t3, t4, t5, t6, t7⟩ := Cx.tidy (L := L) b1 b2 (fun _ => rfl)
    refine ⟨d', t1, ?_⟩
    have hdo : ∀ q, d'.objs.getD q .free = match look r.ms q with | some ob => ob | none => c.objs.getD q .free := fun q => by rw [t3]; exact hLg q
    refine rg_next hR hF hI ho' hi hni hin hT hr hd t4 t5 (by rw [t3]; show (tab _ _ _).length = _; rw [tab_len]) hdo t6 (t7 _ _ (b3 _ _ k6 k7)) fun q ob hl => ?_
    obtain ⟨m1, m2, m3, m4, m5, m6, m7⟩ := hms.ms q ob hl
    have hlead : (c.objs.getD q .free).leads ob := by
      have := t5.kinds q
      rw [hdo q, hl] at this; exact this
    refine ⟨m3, ?_⟩
    rcases Nat.lt_or_ge q g.n0 with hn | hn
    · have hsb : g.shp F q = g.base q := by unfold Rg.shp; rw [if_pos hn]
      rw [hsb]
      refine ⟨m6 hn, ?_⟩
      rcases lastR_cases (F := msF) (rs := F) (S := S) (k := q) (d := g.base q) with ⟨j, r', y, q1, q2, q3, q4, _⟩ | ⟨_, q4⟩
      · have := (hI.shp j r' q2 q1 q y q3).2.2
        rw [hsb] at this
        rw [hI.obj, q4] at hlead
        exact Ob.leads_trans this hlead
      · rw [hI.obj, q4] at hlead; exact hlead
    · by_cases e : q = g.n0 + i
      · have hsb : g.shp F q = ob := by
          unfold Rg.shp
          rw [if_neg (by omega)]
          have : q - g.n0 = i := by omega
          rw [this, hr]
          simp only [hl]
        rw [hsb]
        exact ⟨m3, Ob.leads_refl _⟩
      · have hm := (m7 hn).resolve_left e
        have hvo := (hseen q).2 m2
        have e2 : (g.obs rsk i).getD q .free = g.ob rsk i q := by unfold Rg.obs; rw [tab_get m5, Nat.zero_add]
        rw [← e2, hvo] at hm
        rcases lastR_cases (F := msF) (rs := F) (S := S) (k := q) (d := g.base q) with ⟨j, r', y, q1, q2, q3, q4, _⟩ | ⟨_, q4⟩
        · obtain ⟨s1, s2, s3⟩ := hI.shp j r' q2 q1 q y q3
          rw [hI.obj, q4] at hlead
          exact ⟨s2, Ob.leads_trans s3 hlead⟩
        · rw [hI.obj, q4, hR.pad q hn] at hm; cases hm
  · have hw := h3 (c.see (g.obs rsk i)) a hI.P hcv rfl hsl
    rw [if_neg (by rw [hw]; simp)]
    refine ⟨c, rfl, rg_next hR hF hI ho' hi hni hin hT hr hd hI.ok (Cx.Evol.refl c) hI.len (fun q => by rw [h2]; rfl) hI.fr (by rw [h1]; exact ⟨[], rfl, rfl⟩) fun q ob hl => ?_⟩
    rw [h2] at hl; cases hl
end
end Go.Sy
namespace Go.Sy
open Go Go.RowKit Go.Lib

/-- Rows that are handed on as data are frozen ahead of the region. -/
def pfz : List Nat → Hp → Hp
  | [], h => h
  | o :: r, h => pfz r (match h.get o with
    | .row e t l true => h.set o (.row e t l false)
    | _ => h)
theorem pfz_ok {E : Env} : ∀ {l : List Nat} {c : Cx} {h : Hp}, c.Ok E → c.objs = h.objs → (c.at (pfz l h)).Ok E ∧ c.Evol (c.at (pfz l h)) ∧ h.Agr (pfz l h) ∧ (pfz l h).objs.length = h.objs.length := by
  intro l
  induction l with
  | nil =>
    intro c h ho hh
    have hc : c.at h = c := by cases c; subst hh; rfl
    show (c.at h).Ok E ∧ c.Evol (c.at h) ∧ h.Agr h ∧ _
    rw [hc]
    exact ⟨ho, Cx.Evol.refl c, Hp.Agr.refl _, rfl⟩
  | cons o r ih =>
    intro c h ho hh
    have key : ∀ h1 : Hp, (c.at h1).Ok E ∧ c.Evol (c.at h1) ∧ h.Agr h1 ∧ h1.objs.length = h.objs.length → (c.at (pfz r h1)).Ok E ∧ c.Evol (c.at (pfz r h1)) ∧ h.Agr (pfz r h1) ∧ (pfz r h1).objs.length = h.objs.length := by
      rintro h1 ⟨a1, a2, a3, a4⟩
      obtain ⟨b1, b2, b3, b4⟩ := ih (c := c.at h1) (h := h1) a1 rfl
      exact ⟨b1, a2.trans b2, a3.trans b3, b4.trans a4⟩
    refine key _ ?_
    have same : (c.at h).Ok E ∧ c.Evol (c.at h) ∧ h.Agr h ∧ h.objs.length = h.objs.length := by
      have hc : c.at h = c := by cases c; subst hh; rfl
      rw [hc]
      exact ⟨ho, Cx.Evol.refl c, Hp.Agr.refl _, rfl⟩
    cases he : h.get o with
    | row e t l own =>
      cases own with
      | false => exact same
      | true =>
        have he' : c.objs.getD o .free = .row e t l true := by rw [hh]; exact he
        have hlt : o < c.objs.length := by
          rcases Nat.lt_or_ge o c.objs.length with h1 | h1
          · exact h1
          · rw [getD_ge h1] at he'; cases he'
        have hor := ho.objs o
        rw [he'] at hor
        obtain ⟨hok, hev⟩ := Cx.turn ho o (.row e t l false) hlt (by rw [he']; exact ⟨rfl, rfl, rfl⟩) (by rw [he']) (by intro hm; cases hm)
          (fun c' hc' hw => by have := ORel.evol hc' (u := c.φ o) (fun b _ => by rw [hw]) hor; exact this) (fun _ _ _ _ => .inl (by rw [he']; rfl))
        have hat : c.at (h.set o (.row e t l false)) = { c with objs := setX c.objs o (.row e t l false) } := by rw [hh]; rfl
        show (c.at (h.set o (.row e t l false))).Ok E ∧ c.Evol (c.at (h.set o (.row e t l false))) ∧ h.Agr (h.set o (.row e t l false)) ∧ _
        rw [hat]
        refine ⟨hok, hev, Hp.Agr.set h o _ (by rw [← hh]; omega), ?_⟩
        show (setX h.objs o _).length = h.objs.length
        unfold setX
        rw [if_pos (by rw [← hh]; exact hlt), List.length_set]
    | _ => exact same
/-- A guess of what an address or slice stands on; it is checked later. -/
def findW : List Oper → Nat → Nat → Option (Nat × Oper)
  | [], _, _ => none
  | o :: r, t, k => match o.dst with
    | some d => if Nat.beq d t = true then some (k, o) else findW r t (k + 1)
    | none => findW r t (k + 1)
def root (l : List Oper) (tm : List AV) (n0 : Nat) : Nat → Operand → List Nat
  | 0, _ => []
  | n + 1, .tmp t => (match findW l t 0 with
    | some (k, o) => (match o.op with
      | .move x | .nilCheck x | .fieldAddr _ x _ | .indexAddr _ x _ | .slice _ x _ _ _ => root l tm n0 n x
      | .alloc _ | .box .. | .makeSlice .. => [n0 + k]
      | .call ⟨.builtin .append, _, _⟩ => [n0 + k]
      | _ => [])
    | none => (match tm.getD t .top with
      | .ref o _ => [o]
      | .rsl o => [o]
      | _ => []))
  | _, _ => []
def turns (l : List Oper) (tm : List AV) (n0 : Nat) (o : Oper) : List Nat :=
  match o.op with
  | .store _ a _ => root l tm n0 l.length a
  | .call ⟨.builtin .append, args, _⟩ => (match args.toList with | x :: _ => root l tm n0 l.length x | _ => [])
  | .call ⟨.builtin .copy, args, _⟩ => (match args.toList with | x :: _ => root l tm n0 l.length x | _ => [])
  | _ => []
def gsL (l : List Oper) (tm : List AV) (n0 : Nat) : List Oper → Nat → List (List Nat)
  | [], _ => []
  | o :: r, k => ((n0 + k) :: turns l tm n0 o) :: gsL l tm n0 r (k + 1)
def slFree (E : Env) : Operand → Bool
  | .func f => (match look E.con f with | some k => noSl k.rs | none => false)
  | _ => false
def frL (E : Env) (l : List Oper) (tm : List AV) (n0 : Nat) : List Oper → List Nat
  | [] => []
  | o :: r => (match o.op with
    | .call ⟨.value f, args, _⟩ => if slFree E f = true then [] else args.toList.flatMap (root l tm n0 l.length)
    | .build _ ps => ps.toList.flatMap fun (p : Nat × Operand) => root l tm n0 l.length p.2
    | .buildSlice _ _ ps => ps.toList.flatMap fun (p : Nat × Operand) => root l tm n0 l.length p.2
    | _ => []) ++ frL E l tm n0 r
def topoB : List Oper → Nat → Bool
  | [], _ => true
  | o :: r, i => o.after.toList.all (fun e => !Region.binds .any e || Nat.blt e.on i) && topoB r (i + 1)
def dstB (g : Rg) : List Oper → Nat → Bool
  | [], _ => true
  | o :: r, i => (match o.dst with | some d => g.visS i d g.ops 0 && Nat.blt d g.tm.length | none => true) && dstB g r (i + 1)
theorem topoB_ok : ∀ {l : List Oper} {j : Nat}, topoB l j = true → ∀ (k : Nat) (o : Oper), l[k]? = some o → ∀ e ∈ o.after.toList, Region.binds .any e = true → e.on < j + k := by
  intro l
  induction l with
  | nil => intro j _ k o h; simp at h
  | cons y r ih =>
    intro j h k o hk e he hb
    simp only [topoB, Bool.and_eq_true] at h
    cases k with
    | zero =>
      simp at hk; subst hk
      have := h.1
      rw [List.all_eq_true] at this
      have := this e he
      rw [hb] at this
      simpa using this
    | succ k =>
      have := ih h.2 k o (by simpa using hk) e he hb
      omega
theorem dstB_ok {g : Rg} : ∀ {l : List Oper} {j : Nat}, dstB g l j = true → ∀ (k : Nat) (o : Oper) (d : Nat), l[k]? = some o → o.dst = some d → g.visS (j + k) d g.ops 0 = true ∧ d < g.tm.length := by
  intro l
  induction l with
  | nil => intro j _ k o d h; simp at h
  | cons y r ih =>
    intro j h k o d hk hd
    simp only [dstB, Bool.and_eq_true] at h
    cases k with
    | zero =>
      simp at hk; subst hk
      have := h.1
      rw [hd] at this
      simp only [Bool.and_eq_true] at this
      exact ⟨this.1, by simpa using this.2⟩
    | succ k =>
      have := ih h.2 k o d (by simpa using hk) hd
      rw [show j + (k + 1) = j + 1 + k by omega]; exact this
def tabV (f : Nat → AV) : Nat → Nat → List AV
  | 0, _ => []
  | n + 1, k => f k :: tabV f n (k + 1)
theorem tabV_get {f : Nat → AV} : ∀ {n k i : Nat}, (tabV f n k).getD i .top = if i < n then f (k + i) else .top := by
  intro n
  induction n with
  | zero => intro k i; simp [tabV]
  | succ n ih =>
    intro k i
    cases i with
    | zero => simp [tabV]
    | succ i =>
      simp only [tabV, List.getD_cons_succ, Nat.add_lt_add_iff_right]
      rw [ih]
      have : k + (i + 1) = k + 1 + i := by omega
      rw [this]
theorem tabV_len {f : Nat → AV} : ∀ {n k : Nat}, (tabV f n k).length = n := by
  intro n
  induction n with
  | zero => intro k; rfl
  | succ n ih => intro k; simp [tabV, ih]
def keysR : List ORes → List Nat
  | [] => []
  | r :: rs => r.ms.map (·.1) ++ keysR rs
def dstsL : List Oper → List Nat
  | [] => []
  | o :: r => o.dst.toList ++ dstsL r
def Rg.fin (g : Rg) (F : List ORes) (h : Hp) (dT : List Nat) : St :=
  ⟨tabV (fun t => lastR slF F (fun _ => true) t (g.tm.getD t .top)) g.tm.length 0, ⟨tab (fun o => lastR msF F (fun _ => true) o (g.base o)) g.B.length 0, keysR F ++ h.dO⟩, dstsL g.ops ++ dT⟩
def mkRg (E : Env) (ops : Array Oper) (st : St) : Rg × Hp :=
  let l := ops.toList
  let n0 := st.hp.objs.length
  let h := pfz (frL E l st.tm n0 l) st.hp
  (⟨l, mkL l [], gsL l st.tm n0 l 0, st.tm, h.objs ++ List.replicate l.length .free, n0⟩, h)
/-- A region drawn in any order. -/
def regD (E : Env) : Dr := fun ops st R K =>
  let gh := mkRg E ops st
  if topoB gh.1.ops 0 && dstB gh.1 gh.1.ops 0 then gh.1.go E R (fun F => K (gh.1.fin F gh.2 st.dT)) gh.1.ops 0 [] [] else none
theorem keysR_of : ∀ {F : List ORes} {j : Nat} {r : ORes} {q : Nat} {ob : Ob}, atR F j = some r → look r.ms q = some ob → (keysR F).contains q = true := by
  intro F
  induction F with
  | nil => intro j r q ob h; cases h
  | cons y F ih =>
    intro j r q ob h hl
    simp only [atR] at h
    simp only [keysR, List.contains_eq_mem, List.mem_append, decide_eq_true_eq]
    split at h
    · cases h
      left
      exact List.mem_map.2 ⟨(q, ob), look_mem hl, rfl⟩
    · right; simpa using ih h hl
theorem dstsL_of : ∀ {l : List Oper} {k : Nat} {o : Oper} {d : Nat}, l[k]? = some o → o.dst = some d → (dstsL l).contains d = true := by
  intro l
  induction l with
  | nil => intro k o d h; simp at h
  | cons y r ih =>
    intro k o d h hd
    simp only [dstsL, List.contains_eq_mem, List.mem_append, decide_eq_true_eq]
    cases k with
    | zero => simp at h; subst h; left; rw [hd]; simp
    | succ k => right; simpa using ih (by simpa using h) hd
end Go.Sy
namespace Go.Sy
open Go Go.RowKit Go.Lib

theorem lastR_none {α : Type} {F : Nat → ORes → List (Nat × α)} {rs : List ORes} {S : Nat → Bool} {k : Nat} {d : α} (h : ∀ j, S j = false) : lastR F rs S k d = d := by
  rcases lastR_cases (F := F) (rs := rs) (S := S) (k := k) (d := d) with ⟨j, _, _, _, h2, _⟩ | ⟨_, h2⟩
  · rw [h j] at h2; cases h2
  · exact h2
theorem gsL_len {l : List Oper} {tm : List AV} {n0 : Nat} : ∀ {r : List Oper} {k : Nat}, (gsL l tm n0 r k).length = r.length := by
  intro r
  induction r with
  | nil => intro k; rfl
  | cons y r ih => intro k; simp [gsL, ih]
theorem regD_any {E : Env} {P : Program} (hE : E.Ok P) (hC : ∀ f k, look E.con f = some k → Sat P E.gl f k) {ops : Array Oper} {st : St} {R : Type} {K : St → Option R} {r : R} (hk : regD E ops st R K = some r)
    {c : Cx} {a : Act} {Q : Exit → Act → World → Prop} (hP : c.P = P) (hs : Sm E c st a) (hn : ∀ st' c' a', K st' = some r → Sm E c' st' a' → Gone c st a c' st' a' → Q .normal a' c'.w) :
    wpAny P .any ops Q ops.size (Array.replicate ops.size false) a { c.w with drawn := c.w.drawn + 1 } := by
  unfold regD at hk
  simp only at hk
  split at hk
  rotate_left
  · cases hk
  rename_i hchk
  rw [Bool.and_eq_true] at hchk
  let g : Rg := (mkRg E ops st).1
  let h : Hp := (mkRg E ops st).2
  have hpz : h = pfz (frL E ops.toList st.tm st.hp.objs.length ops.toList) st.hp := rfl
  -- the context at the region's start
  obtain ⟨g1, g2⟩ := Cx.grow hs.ok { c.w with drawn := c.w.drawn + 1 } rfl rfl rfl (Nat.le_refl _) (fun _ _ => rfl)
  obtain ⟨p1, p2, p3, p4⟩ := pfz_ok (l := frL E ops.toList st.tm st.hp.objs.length ops.toList) (c := { c with w := { c.w with drawn := c.w.drawn + 1 } }) (h := st.hp) g1 hs.objs
  have hBg : ∀ q, g.B.getD q .free = h.objs.getD q .free := by
    intro q
    show (h.objs ++ List.replicate ops.toList.length Ob.free).getD q .free = _
    simp only [List.getD_eq_getElem?_getD]
    rcases Nat.lt_or_ge q h.objs.length with hq | hq
    · rw [List.getElem?_append_left hq]
    · rw [List.getElem?_append_right hq, List.getElem?_replicate, List.getElem?_eq_none hq]
      split <;> rfl
  obtain ⟨c3, t1, t2, t3, t4, t5, t6, t7⟩ := Cx.tidy (L := g.B) p1 (g2.trans p2) hBg
  have hlen : h.objs.length = st.hp.objs.length := p4
  have hBl : g.B.length = g.n0 + g.ops.length := by
    show (h.objs ++ List.replicate ops.toList.length Ob.free).length = st.hp.objs.length + ops.toList.length
    rw [List.length_append, List.length_replicate, hlen]
  have hR : RgOk g ops := by
    refine ⟨rfl, fun i o ho e he hb => ?_, rfl, fun i o d ho hd => ?_, hBl, fun q hq => ?_⟩
    · have := topoB_ok hchk.1 i o (by rw [← Array.getElem?_toList] at ho; exact ho) e he hb
      omega
    · have := dstB_ok (g := g) hchk.2 i o d ho hd
      rw [Nat.zero_add] at this; exact this
    · show g.B.getD q .free = .free
      rw [hBg]
      exact getD_ge (by rw [hlen]; exact hq)
  obtain ⟨F, hKF, _, hFl, hfct⟩ := go_ok (P := P) (g := g) (ops := ops) hE hC rfl (l := g.ops) (i := 0) (kn := []) (rs := []) rfl (fun j b hj => by cases hj) hk
  have hF : RF E P g ops F := ⟨by rw [hFl, Nat.zero_add], fun k o ho => by
    obtain ⟨rk, rsk, q1, q2, q3, q4⟩ := hfct k o ho
    rw [Nat.zero_add] at q1 q2 q4
    exact ⟨rk, rsk, q1, q2, q3, q4⟩⟩
  have hsl : ops.size = g.ops.length := by show ops.size = ops.toList.length; simp
  let a0 := a
  have hI0 : RI E P g F c a (fun j => (Array.replicate ops.size false).getD j false) c3 a := by
    have hS0 : ∀ j, (Array.replicate ops.size false).getD j false = false := fun j => by
      rw [Array.getD_eq_getD_getElem?, Array.getElem?_replicate]
      split <;> rfl
    refine ⟨?_, t4, t5, by rw [t3], fun q => ?_, fun t => ?_, hs.size, hs.defers, fun _ _ => rfl, t6, fun j r' hj => ?_, fun i hi => ?_⟩
    · rw [t2]; exact hP
    · rw [lastR_none hS0, t3]; rfl
    · rw [lastR_none hS0]; exact (hs.av t).evol t5
    · rw [hS0] at hj; cases hj
    · rw [hS0] at hi; cases hi
  have hw : c3.w = { c.w with drawn := c.w.drawn + 1 } := t1
  rw [← hw]
  refine wpAny_inv (fun listed a' w' => ∃ c' : Cx, c'.w = w' ∧ RI E P g F c a (fun j => listed.getD j false) c' a') hR.topo ?_ ?_ ops.size _ a c3.w (by simp) ?_ ⟨c3, rfl, hI0⟩
  · rintro listed a' w' i o hls ⟨c', rfl, hI⟩ ho hni hed
    have hi : i < listed.size := by
      rw [hls]; exact (Array.getElem?_eq_some_iff.1 ho).1
    have hni' : listed.getD i false = false := by
      rw [Array.getD_eq_getD_getElem?, Array.getElem?_eq_getElem hi] at hni ⊢
      simpa using hni
    refine rg_step hR hF hI ho hni' (bit_in hR hI.dc ho hed) (fun j => ?_)
    show (listed.setIfInBounds i true).getD j false = _
    simp only [Array.getD_eq_getD_getElem?, Array.getElem?_setIfInBounds]
    by_cases e : i = j
    · subst e
      rw [if_pos rfl, if_pos hi, Nat.beq_refl, Bool.or_true]; rfl
    · rw [if_neg e]
      have : Nat.beq j i = false := by
        cases hb : Nat.beq j i with
        | false => rfl
        | true => exact absurd (Nat.eq_of_beq_eq_true hb).symm e
      rw [this, Bool.or_false]
  · rintro listed a' w' hls ⟨c', rfl, hI⟩ hall
    have hall' : ∀ j r', atR F j = some r' → listed.getD j false = true := fun j r' hj => by
      have h1 := atR_some hj
      rw [hF.len, ← hsl] at h1
      have h2 := hall j h1
      have h3 : j < listed.size := by omega
      rw [Array.getD_eq_getD_getElem?, Array.getElem?_eq_getElem h3] at h2 ⊢
      simpa using h2
    refine hn (g.fin F h st.dT) c' a' hKF ⟨hI.ok, ?_, ?_, fun t => ?_, hI.defers⟩ ⟨hI.ev, ⟨?_, fun q hq => ?_, fun q hq hd => ?_⟩, fun t ht => ?_, fun t ht => hI.same t fun k o ho hd => ?_, tabV_len⟩
    · show c'.objs = tab _ g.B.length 0
      apply List.ext_getElem?
      intro q
      have e : c'.objs.getD q .free = (tab (fun o => lastR msF F (fun _ => true) o (g.base o)) g.B.length 0).getD q .free := by
        rcases Nat.lt_or_ge q g.B.length with hq | hq
        · rw [tab_get hq, Nat.zero_add, hI.obj]
          exact lastR_congr fun j r' hj _ => hall' j r' hj
        · rw [getD_ge (by rw [hI.len]; exact hq), getD_ge (by rw [tab_len]; exact hq)]
      rcases Nat.lt_or_ge q g.B.length with hq | hq
      · have q1 : q < c'.objs.length := by rw [hI.len]; exact hq
        have q2 : q < (tab (fun o => lastR msF F (fun _ => true) o (g.base o)) g.B.length 0).length := by rw [tab_len]; exact hq
        rw [List.getD_eq_getElem?_getD, List.getD_eq_getElem?_getD, List.getElem?_eq_getElem q1, List.getElem?_eq_getElem q2] at e
        rw [List.getElem?_eq_getElem q1, List.getElem?_eq_getElem q2]
        simpa using e
      · rw [List.getElem?_eq_none (by rw [hI.len]; exact hq), List.getElem?_eq_none (by rw [tab_len]; exact hq)]
    · show a'.tmps.size = (tabV _ g.tm.length 0).length
      rw [tabV_len]; exact hI.size
    · show AVL c' ((tabV _ g.tm.length 0).getD t .top) _
      rw [tabV_get, Nat.zero_add]
      split
      · have := hI.slot t
        have e : lastR slF F (fun j => listed.getD j false) t (g.tm.getD t .top) = lastR slF F (fun _ => true) t (g.tm.getD t .top) := lastR_congr fun j r' hj _ => hall' j r' hj
        rw [e] at this; exact this
      · exact ⟨_, rfl⟩
    · show st.hp.objs.length ≤ (tab _ g.B.length 0).length
      rw [tab_len, hBl]; exact Nat.le_add_right _ _
    · show (keysR F ++ h.dO).contains q = true
      have := p3.d q hq
      simp only [List.contains_eq_mem, List.mem_append, decide_eq_true_eq] at this ⊢
      exact .inr this
    · have hd : (keysR F ++ h.dO).contains q = false := hd
      simp only [List.contains_eq_mem, List.mem_append, decide_eq_false_iff_not, not_or] at hd
      show (tab (fun o => lastR msF F (fun _ => true) o (g.base o)) g.B.length 0).getD q .free = st.hp.get q
      rw [tab_get (by rw [hBl]; exact Nat.lt_of_lt_of_le hq (Nat.le_add_right _ _)), Nat.zero_add]
      rcases lastR_cases (F := msF) (rs := F) (S := fun _ => true) (k := q) (d := g.base q) with ⟨j, r', x, q1, _, q3, _, _⟩ | ⟨_, q4⟩
      · have := keysR_of q1 q3
        exact absurd (by simpa using this) hd.1
      · rw [q4]
        show g.B.getD q .free = _
        rw [hBg]
        have hd2 : (pfz (frL E ops.toList st.tm st.hp.objs.length ops.toList) st.hp).dO.contains q = false := by
          have := hd.2
          rw [hpz] at this
          simpa using this
        exact p3.same q hq hd2
    · show (dstsL g.ops ++ st.dT).contains t = true
      simp only [List.contains_eq_mem, List.mem_append, decide_eq_true_eq] at ht ⊢
      exact .inr ht
    · have ht : (dstsL g.ops ++ st.dT).contains t = false := ht
      simp only [List.contains_eq_mem, List.mem_append, decide_eq_false_iff_not, not_or] at ht
      have := dstsL_of ho hd
      exact ht.1 (by simpa using this)
  · simp
theorem regD_ok {E : Env} {P : Program} (hm : P.follows .mixedOrders = true) (hE : E.Ok P) (hC : ∀ f k, look E.con f = some k → Sat P E.gl f k) : DOk E P (regD E) :=
  fun _ _ _ _ _ hk _ _ _ _ hP hs hn => wp_region_any hm (regD_any hE hC hk hP hs hn)
end Go.Sy
namespace Go.Sy
open Go Go.RowKit Go.Lib

def bitM (M : List Nat) (i j : Nat) : Bool := (M.getD i 0).testBit j
/-- Does everything ahead of operation j go ahead of it? -/
def fullB (M : List Nat) (j : Nat) : Bool := (List.range j).all fun i => bitM M j i
/-- Where the tail begins. -/
def tk (M : List Nat) : Nat → Nat
  | 0 => 0
  | n + 1 => if fullB M n = true then tk M n else n + 1
def gdB (k : Nat) (l : List Oper) : Bool := (l.take k).all fun o => match o.guard with | none => true | some (j, _) => Nat.blt j k
theorem tk_le {M : List Nat} : ∀ {n : Nat}, tk M n ≤ n := by
  intro n
  induction n with
  | zero => exact Nat.le_refl _
  | succ n ih => simp only [tk]; split <;> omega
theorem tk_full {M : List Nat} : ∀ {n j : Nat}, tk M n ≤ j → j < n → fullB M j = true := by
  intro n
  induction n with
  | zero => intro j _ h; omega
  | succ n ih =>
    intro j h1 h2
    simp only [tk] at h1
    split at h1
    · rename_i hf
      by_cases e : j = n
      · subst e; exact hf
      · exact ih h1 (by omega)
    · omega
theorem upon_q {P : Program} {o : Oper} {a : Act} {w : World} {K : Act → World → Prop} {Q Q' : Exit → Act → World → Prop} (hq : ∀ e a w, e ≠ .normal → Q e a w → Q' e a w) (h : o.wp P a w K Q) : o.wp P a w K Q' := by
  have ho : LetsOut Q → LetsOut Q' := fun ⟨a, w, h⟩ => ⟨a, w, hq _ a w (by intro e; cases e) h⟩
  unfold Oper.wp at *
  generalize (execOp a.eval o).run P w = r at *
  cases r with
  | ok n w' =>
    cases n <;> simp only [Oper.upon] at h ⊢ <;>
      first
        | exact h
        | exact Calls.mono h (fun e w'' he => by cases e <;> first | exact he | exact hq _ _ _ (by intro e; cases e) he | exact ho he)
        | exact hq _ _ _ (by intro e; cases e) h
  | halt x w' => cases x <;> simp only [Oper.upon] at h ⊢ <;> first | exact h | exact hq _ _ _ (by intro e; cases e) h | exact ho h
theorem wpOp_q {P : Program} {ops ops' : Array Oper} {i : Nat} {a : Act} {w : World} {K : Act → World → Prop} {Q Q' : Exit → Act → World → Prop} (hq : ∀ e a w, e ≠ .normal → Q e a w → Q' e a w)
    (hi : ops[i]? = ops'[i]?) (hy : ∀ o, ops[i]? = some o → ∀ j b, o.guard = some (j, b) → ops[j]? = ops'[j]?) (h : wpOp P ops Q i K a w) : wpOp P ops' Q' i K a w := by
  unfold wpOp at *
  rw [← hi]
  cases ho : ops[i]? with
  | none => rw [ho] at h; exact h
  | some o =>
    rw [ho] at h
    simp only at h ⊢
    have hw : Region.wanted o (yielded ops a.tmps) = Region.wanted o (yielded ops' a.tmps) := by
      unfold Region.wanted
      cases hg : o.guard with
      | none => rfl
      | some jb =>
        obtain ⟨j, b⟩ := jb
        have := hy o ho j b hg
        simp only [yielded, this]
    rw [← hw]
    split
    · rename_i hh
      rw [if_pos hh] at h
      rcases h with h | ⟨h1, h2⟩
      · exact .inl (upon_q hq h)
      · obtain ⟨a2, w2, h2⟩ := h2
        exact .inr ⟨h1, a2, w2, hq _ a2 w2 (by intro e; cases e) h2⟩
    · rename_i hh; rw [if_neg hh] at h; exact h
theorem wpAny_tail {P : Program} {ops : Array Oper} {Q : Exit → Act → World → Prop} {k : Nat} (hk : k ≤ ops.size) (topo : ∀ (i : Nat) (o : Oper), ops[i]? = some o → ∀ e ∈ o.after.toList, Region.binds .any e = true → e.on < i)
    (hg : gdB k ops.toList = true) (hfull : ∀ j, k ≤ j → j < ops.size → fullB (mkL ops.toList []) j = true) {a : Act} {w : World}
    (h : wpAny P .any (ops.extract 0 k) (Exit.then (wpOps P ops Q (List.range' k (ops.size - k))) Q) k (Array.replicate k false) a w) :
    wpAny P .any ops Q ops.size (Array.replicate ops.size false) a w := by
  let M := mkL ops.toList []
  let head := ops.extract 0 k
  let Qh := Exit.then (wpOps P ops Q (List.range' k (ops.size - k))) Q
  have hsz : head.size = k := by show (ops.extract 0 k).size = k; simp; omega
  have hget : ∀ i, i < k → head[i]? = ops[i]? := fun i hi => by
    show (ops.extract 0 k)[i]? = _
    rw [Array.getElem?_extract]
    simp
    omega
  have hgd : ∀ i o, i < k → ops[i]? = some o → ∀ j b, o.guard = some (j, b) → j < k := by
    intro i o hi ho j b hgo
    unfold gdB at hg
    rw [List.all_eq_true] at hg
    have hm : o ∈ ops.toList.take k := by
      rw [List.mem_iff_getElem?]
      exact ⟨i, by rw [List.getElem?_take, if_pos hi, Array.getElem?_toList]; exact ho⟩
    have := hg o hm
    rw [hgo] at this
    simpa using this
  have hq : ∀ e a w, e ≠ .normal → Qh e a w → Q e a w := fun e a w hne he => by
    cases e <;> first | exact absurd rfl hne | exact he
  -- what has been done holds all that goes ahead
  let S (l : Array Bool) (j : Nat) : Bool := l.getD j false
  let dc (l : Array Bool) : Prop := ∀ i, S l i = true → ∀ j, bitM M i j = true → S l j = true
  have bin : ∀ {l : Array Bool} {i : Nat} {o : Oper}, dc l → ops[i]? = some o → (∀ e ∈ o.after.toList, Region.binds .any e = true → l.getD e.on false = true) → ∀ j, bitM M i j = true → S l j = true := by
    intro l i o hd ho hr j hb
    have hb' : ((mkL ops.toList []).getD (([] : List Nat).length + i) 0).testBit j = true := by simpa [bitM] using hb
    obtain ⟨e, h1, h2, h3⟩ := mkL_bit (by rw [Array.getElem?_toList]; exact ho) hb'
    rcases h3 with h3 | h3
    · rw [← h3]; exact hr e h1 h2
    · exact hd e.on (hr e h1 h2) j h3
  have setS : ∀ {l : Array Bool} {i j : Nat}, i < l.size → (S (l.setIfInBounds i true) j = true ↔ j = i ∨ S l j = true) := by
    intro l i j hi
    show (l.setIfInBounds i true).getD j false = true ↔ _
    simp only [Array.getD_eq_getD_getElem?, Array.getElem?_setIfInBounds]
    by_cases e : i = j
    · subst e; simp [hi]
    · rw [if_neg e]
      constructor
      · intro h; right; show l.getD j false = true; rw [Array.getD_eq_getD_getElem?]; exact h
      · rintro (h | h)
        · exact absurd h.symm e
        · have h : l.getD j false = true := h
          rw [Array.getD_eq_getD_getElem?] at h; exact h
  refine wpAny_inv (fun l a w => dc l ∧ ((∃ (lh : Array Bool) (fuel : Nat), lh.size = k ∧ (∀ j, j < k → lh.getD j false = S l j) ∧ (∀ j, k ≤ j → S l j = false) ∧ wpAny P .any head Qh fuel lh a w) ∨
      (∃ m, k ≤ m ∧ m ≤ ops.size ∧ (∀ j, S l j = decide (j < m)) ∧ wpOps P ops Q (List.range' m (ops.size - m)) a w))) topo ?_ ?_ ops.size _ a w (by simp) (by simp) ?_
  · rintro l a w i o hls ⟨hd, hI⟩ ho hni hed
    have hi : i < ops.size := (Array.getElem?_eq_some_iff.1 ho).1
    have hil : i < l.size := by omega
    have hni' : S l i = false := by
      show l.getD i false = false
      rw [Array.getD_eq_getD_getElem?, Array.getElem?_eq_getElem hil] at hni ⊢
      simpa using hni
    have hbits := bin hd ho hed
    have hd2 : dc (l.setIfInBounds i true) := by
      intro x hx j hb
      rw [setS hil] at hx ⊢
      rcases hx with hx | hx
      · subst hx; exact .inr (hbits j hb)
      · exact .inr (hd x hx j hb)
    -- the tail's next
    have tl : ∀ m, k ≤ m → m ≤ ops.size → (∀ j, S l j = decide (j < m)) → wpOps P ops Q (List.range' m (ops.size - m)) a w → m ≤ i → wpOp P ops Q i (fun a w => dc (l.setIfInBounds i true) ∧
        ((∃ (lh : Array Bool) (fuel : Nat), lh.size = k ∧ (∀ j, j < k → lh.getD j false = S (l.setIfInBounds i true) j) ∧ (∀ j, k ≤ j → S (l.setIfInBounds i true) j = false) ∧ wpAny P .any head Qh fuel lh a w) ∨
        (∃ m, k ≤ m ∧ m ≤ ops.size ∧ (∀ j, S (l.setIfInBounds i true) j = decide (j < m)) ∧ wpOps P ops Q (List.range' m (ops.size - m)) a w))) a w := by
      intro m hm1 hm2 hm3 hw hmi
      have him : i = m := by
        rcases Nat.lt_or_ge m i with h1 | h1
        · exfalso
          have hf := hfull i (by omega) hi
          unfold fullB at hf
          rw [List.all_eq_true] at hf
          have h2 := hbits m (hf m (by simpa using h1))
          rw [hm3] at h2
          simp at h2
        · omega
      subst him
      have e1 : ops.size - i = (ops.size - (i + 1)) + 1 := by omega
      rw [e1, List.range'_succ, wpOps_cons] at hw
      refine wpOp_mono (fun a w h => ⟨hd2, .inr ⟨i + 1, by omega, by omega, fun j => ?_, h⟩⟩) hw
      cases hx : S (l.setIfInBounds i true) j with
      | true =>
        rw [setS hil, hm3] at hx
        symm
        rcases hx with hx | hx
        · simp; omega
        · simp at hx ⊢; omega
      | false =>
        symm
        rw [decide_eq_false_iff_not]
        intro hlt
        have : S (l.setIfInBounds i true) j = true := by
          rw [setS hil, hm3]
          by_cases e : j = i
          · exact .inl e
          · exact .inr (by simp; omega)
        rw [this] at hx; cases hx
    rcases hI with ⟨lh, fuel, h1, h2, h3, h4⟩ | ⟨m, h1, h2, h3, h4⟩
    · rcases Nat.lt_or_ge i k with hik | hik
      · -- in the head
        have hready : i ∈ Region.ready .any head lh := by
          unfold Region.ready
          rw [List.mem_filter]
          refine ⟨by simp [hsz]; exact hik, ?_⟩
          rw [Bool.and_eq_true]
          have hx : lh.getD i true = false := by
            have := h2 i hik
            rw [hni'] at this
            rw [Array.getD_eq_getD_getElem?, Array.getElem?_eq_getElem (by omega)] at this ⊢
            simpa using this
          refine ⟨by rw [hx]; rfl, ?_⟩
          rw [hget i hik, ho]
          simp only [Option.map_some, Option.getD_some]
          rw [Array.all_eq_true_iff_forall_mem]
          intro e he
          cases hb : Region.binds .any e with
          | false => rfl
          | true =>
            have h5 := topo i o ho e (by simpa using he) hb
            rw [h2 e.on (by omega)]
            exact hed e (by simpa using he) hb
        cases fuel with
        | zero => have := h4.1; rw [this] at hready; cases hready
        | succ fuel =>
          have h5 := h4.2 i hready
          refine wpOp_q hq (hget i hik) (fun o' ho' j b hgo => hget j (hgd i o' hik (by rw [← hget i hik]; exact ho') j b hgo)) (wpOp_mono (fun a w h6 => ?_) h5)
          refine ⟨hd2, .inl ⟨_, fuel, by simpa using h1, fun j hj => ?_, fun j hj => ?_, h6⟩⟩
          · have e1 : (lh.setIfInBounds i true).getD j false = true ↔ j = i ∨ lh.getD j false = true := by
              simp only [Array.getD_eq_getD_getElem?, Array.getElem?_setIfInBounds]
              by_cases e : i = j
              · subst e; exact ⟨fun _ => .inl rfl, fun _ => by rw [if_pos rfl, if_pos (by omega)]; rfl⟩
              · rw [if_neg e]; constructor
                · exact .inr
                · rintro (h | h)
                  · exact absurd h.symm e
                  · exact h
            have e2 := setS (l := l) (i := i) (j := j) hil
            rw [h2 j hj] at e1
            cases hx : (lh.setIfInBounds i true).getD j false with
            | true => exact (e2.2 (e1.1 hx)).symm
            | false =>
              cases hy : S (l.setIfInBounds i true) j with
              | false => rfl
              | true => rw [e1.2 (e2.1 hy)] at hx; cases hx
          · cases hy : S (l.setIfInBounds i true) j with
            | false => rfl
            | true =>
              rcases (setS hil).1 hy with h7 | h7
              · omega
              · rw [h3 j hj] at h7; cases h7
      · -- the head is done
        have hf := hfull i hik hi
        unfold fullB at hf
        rw [List.all_eq_true] at hf
        have hall : ∀ j, j < i → S l j = true := fun j hj => hbits j (hf j (by simpa using hj))
        have him : i = k := by
          rcases Nat.lt_or_ge k i with h5 | h5
          · have := hall k h5; rw [h3 k (Nat.le_refl _)] at this; cases this
          · omega
        have hnil : Region.ready .any head lh = [] := by
          unfold Region.ready
          rw [List.filter_eq_nil_iff]
          intro j hj
          have hj : j < k := by simpa [hsz] using hj
          have : lh.getD j true = true := by
            have h6 := h2 j hj
            rw [hall j (by omega)] at h6
            rw [Array.getD_eq_getD_getElem?, Array.getElem?_eq_getElem (by omega)] at h6 ⊢
            simpa using h6
          rw [this]; simp
        have hn : wpOps P ops Q (List.range' k (ops.size - k)) a w := by
          cases fuel with
          | zero => exact h4.2
          | succ fuel => exact h4.1 hnil
        refine tl k (Nat.le_refl _) hk (fun j => ?_) hn hik
        rcases Nat.lt_or_ge j k with hj | hj
        · rw [hall j (by omega)]; simp [hj]
        · rw [h3 j hj]; simp; omega
    · rcases Nat.lt_or_ge i m with h5 | h5
      · rw [h3 i] at hni'; simp at hni'; omega
      · exact tl m h1 h2 h3 h4 h5
  · rintro l a w hls ⟨hd, hI⟩ hall
    have hall' : ∀ j, j < ops.size → S l j = true := fun j hj => by
      have := hall j hj
      show l.getD j false = true
      rw [Array.getD_eq_getD_getElem?, Array.getElem?_eq_getElem (by omega)] at this ⊢
      simpa using this
    rcases hI with ⟨lh, fuel, h1, h2, h3, h4⟩ | ⟨m, h1, h2, h3, h4⟩
    · have hks : k = ops.size := by
        rcases Nat.lt_or_ge k ops.size with h5 | h5
        · have := hall' k h5; rw [h3 k (Nat.le_refl _)] at this; cases this
        · omega
      have hnil : Region.ready .any head lh = [] := by
        unfold Region.ready
        rw [List.filter_eq_nil_iff]
        intro j hj
        have hj : j < k := by simpa [hsz] using hj
        have : lh.getD j true = true := by
          have h6 := h2 j hj
          rw [hall' j (by omega)] at h6
          rw [Array.getD_eq_getD_getElem?, Array.getElem?_eq_getElem (by omega)] at h6 ⊢
          simpa using h6
        rw [this]; simp
      have hn : wpOps P ops Q (List.range' k (ops.size - k)) a w := by
        cases fuel with
        | zero => exact h4.2
        | succ fuel => exact h4.1 hnil
      rw [show ops.size - k = 0 by omega] at hn
      exact hn
    · have hm : m = ops.size := by
        rcases Nat.lt_or_ge m ops.size with h5 | h5
        · have := hall' m h5; rw [h3 m] at this; simp at this
        · omega
      rw [show ops.size - m = 0 by omega] at h4
      exact h4
  · refine ⟨fun i hi => ?_, .inl ⟨Array.replicate k false, k, by simp, fun j hj => ?_, fun j hj => ?_, h⟩⟩
    · exfalso
      have : S (Array.replicate ops.size false) i = false := by
        show (Array.replicate ops.size false).getD i false = false
        rw [Array.getD_eq_getD_getElem?, Array.getElem?_replicate]; split <;> rfl
      rw [this] at hi; cases hi
    · show (Array.replicate k false).getD j false = (Array.replicate ops.size false).getD j false
      simp only [Array.getD_eq_getD_getElem?, Array.getElem?_replicate]
      split <;> split <;> rfl
    · show (Array.replicate ops.size false).getD j false = false
      rw [Array.getD_eq_getD_getElem?, Array.getElem?_replicate]; split <;> rfl
theorem Cx.Ok.env {E E' : Env} {c : Cx} (h : c.Ok E) (hg : E'.gl = E.gl) : c.Ok E' := ⟨h.base, h.low, h.objs, h.inj, h.high, h.froz, by rw [hg]; exact h.glob⟩
theorem Sm.env {E E' : Env} {c : Cx} {st : St} {a : Act} (h : Sm E c st a) (hg : E'.gl = E.gl) : Sm E' c st a := ⟨h.ok.env hg, h.objs, h.size, h.av, h.defers⟩
theorem DOk.env {E E' : Env} {P : Program} {D : Dr} (h : DOk E' P D) (hg : E'.gl = E.gl) : DOk E P D :=
  fun ops st R K r hk c a id Q hP hs hn => h ops st R K r hk c a id Q hP (hs.env hg) fun st' c' a' h1 h2 h3 => hn st' c' a' h1 (h2.env hg.symm) h3
end Go.Sy
