/- A symbolic evaluator of the model's code, shown sound once for every program (part 5 of 9): what it computes of a function is what the function does. -/
import Derived.Test.YtageoaecepnfnaaGreatDoorSyD
namespace Go.Sy
open Go Go.RowKit Go.Lib

def srcV (c : Cx) : Option Nat → Value
  | some o => c.φ o
  | none => .slice none 0 0
/-- What has been packed: cells, data and rows. -/
def PB (c : Cx) : (b : BPk) → Den b.ty → List (Option Nat) → List Value → Prop
  | .dat t, x, m, cs => m = [] ∧ RepC c.w c.okb t x cs
  | .row _ _, _, m, cs => ∃ o u, m = [o] ∧ cs = [u] ∧ u.oneCell' = true ∧ u = srcV c o
  | .nd p q, x, m, cs => ∃ m1 m2 d e, m = m1 ++ m2 ∧ cs = d ++ e ∧ PB c p x.1 m1 d ∧ PB c q x.2 m2 e
def PS (c : Cx) : (b : BPk) → Den b.ty → List (Option Nat) → Value → Prop
  | .dat t, x, m, v => m = [] ∧ VRep c.w c.okb t x v
  | .row _ _, _, m, v => ∃ o, m = [o] ∧ v.oneCell' = true ∧ v = srcV c o
  | .nd .., _, _, _ => False
def RowsOk (c : Cx) (rs : List Ob) (m : List (Option Nat)) : Prop :=
  rs.length = m.length ∧ ∀ (k : Nat) (ob : Ob) (o : Option Nat), rs[k]? = some ob → m[k]? = some o → ∃ (e : TypeId) (t : Ty) (l : List (Den t)), ob = Ob.row e t l true ∧ match o with
    | some o => c.objs.getD o .free = ob
    | none => l = []
theorem RowsOk.nil (c : Cx) : RowsOk c [] [] := ⟨rfl, fun k ob o h => by simp at h⟩
theorem RowsOk.append {c : Cx} {r1 r2 : List Ob} {m1 m2 : List (Option Nat)} (h : RowsOk c r1 m1) (k : RowsOk c r2 m2) : RowsOk c (r1 ++ r2) (m1 ++ m2) := by
  refine ⟨by simp [h.1, k.1], fun j ob o h1 h2 => ?_⟩
  rw [List.getElem?_append] at h1 h2
  rw [h.1] at h1
  split at h1
  · rename_i hl; rw [if_pos hl] at h2; exact h.2 j ob o h1 h2
  · rename_i hl; rw [if_neg hl] at h2; exact k.2 _ ob o h1 h2
theorem RowsOk.one {c : Cx} {e : TypeId} {t : Ty} {l : List (Den t)} {o : Option Nat} (h : match o with | some o => c.objs.getD o .free = .row e t l true | none => l = []) : RowsOk c [.row e t l true] [o] := by
  refine ⟨rfl, fun k ob o' h1 h2 => ?_⟩
  cases k with
  | zero =>
    have h1 : some (Ob.row e t l true) = some ob := h1
    have h2 : some o = some o' := h2
    cases h1; cases h2; exact ⟨e, t, l, rfl, h⟩
  | succ k => simp at h1
theorem row_eq {e e' : TypeId} {a b : Ty} {l : List (Den a)} (he : Nat.beq e e' = true) (hb : Ty.beq a b = true) : Ob.row e' a l true = Ob.row e b (castD (a := .sl a) (b := .sl b) hb l) true := by
  have h1 := Nat.eq_of_beq_eq_true he
  subst h1
  have := Ty.beq_eq hb
  subst this
  rfl
theorem pkB_row {c : Cx} {h : Hp} {e : TypeId} {t : Ty} {bt : BT} {x : Den (BPk.row e t).ty} {m : List (Option Nat)} {cs : List Value} (hh : c.objs = h.objs) (hp : pkB h (.row e t) bt = some (x, m))
    (hr : ∀ av, bt = .lf av → (∃ o, av = .rsl o) ∨ av = .nils → ∃ u, cs = [u] ∧ u.oneCell' = true ∧ AVL c av [u]) : RowsOk c [.row e t x true] m ∧ ∃ o u, m = [o] ∧ cs = [u] ∧ u.oneCell' = true ∧ u = srcV c o := by
  cases bt with
  | nd x y => simp [pkB] at hp
  | lf av =>
    cases av with
    | rsl o =>
      simp only [pkB] at hp
      cases hg : h.get o with
      | row e' t' l own =>
        cases own with
        | true =>
          rw [hg] at hp
          simp only at hp
          split at hp
          · rename_i he
            split at hp
            · rename_i hb
              simp only [Option.some.injEq] at hp
              obtain ⟨rfl, rfl⟩ := hp
              obtain ⟨u, h1, h2, u', hu, _, h3⟩ := hr _ rfl (.inl ⟨_, rfl⟩)
              cases hu
              have hgc : c.objs.getD o .free = .row e' t' l true := by rw [hh]; exact hg
              refine ⟨RowsOk.one (o := some o) ?_, some o, u, rfl, h1, h2, ?_⟩
              · show c.objs.getD o .free = _
                rw [hgc]; exact row_eq he hb
              · unfold RslRel at h3; rw [hgc] at h3; exact h3
            · cases hp
          · cases hp
        | false => rw [hg] at hp; cases hp
      | _ => rw [hg] at hp; cases hp
    | nils =>
      simp only [pkB, Option.some.injEq] at hp
      obtain ⟨rfl, rfl⟩ := hp
      obtain ⟨u, h1, h2, h3⟩ := hr _ rfl (.inr rfl)
      have h3 : [u] = [Value.slice none 0 0] := h3
      cases h3
      exact ⟨RowsOk.one (o := none) rfl, none, _, rfl, h1, h2, rfl⟩
    | _ => simp [pkB] at hp
theorem pkB_ok {E : Env} {c : Cx} {h : Hp} (ho : c.Ok E) (hh : c.objs = h.objs) : ∀ {b : BPk} {bt : BT} {x : Den b.ty} {m : List (Option Nat)} {cs : List Value}, pkB h b bt = some (x, m) → BTR c b.ty bt cs →
    PB c b x m cs ∧ RowsOk c (upR b x) m ∧ m.length = b.n := by
  intro b
  induction b with
  | dat t =>
    intro bt x m cs hp hr
    simp only [pkB] at hp
    obtain ⟨y, hy, he⟩ := Option.map_eq_some_iff.1 hp
    cases he
    have h1 := takeB_ok ho hh (takeB0_ok hy) hr
    have hc : c.at h = c := by cases c; subst hh; rfl
    rw [hc] at h1
    exact ⟨⟨rfl, h1.2.2.2⟩, RowsOk.nil c, rfl⟩
  | row e t =>
    intro bt x m cs hp hr
    obtain ⟨h1, o, u, h2, h3⟩ := pkB_row (cs := cs) hh hp (fun av hbt hav => by
      subst hbt
      have hr := BTR_lf.1 hr
      rcases hav with ⟨o, rfl⟩ | rfl <;> exact hr.2.2)
    subst h2
    exact ⟨⟨o, u, rfl, h3⟩, h1, rfl⟩
  | nd p q ihp ihq =>
    intro bt x m cs hp hr
    cases bt with
    | lf av => simp [pkB] at hp
    | nd y z =>
      simp only [pkB] at hp
      split at hp
      · rename_i a m1 b m2 h1 h2
        cases hp
        obtain ⟨d, e, rfl, k1, k2⟩ := hr
        obtain ⟨a1, a2, a3⟩ := ihp h1 k1
        obtain ⟨b1, b2, b3⟩ := ihq h2 k2
        exact ⟨⟨m1, m2, d, e, rfl, rfl, a1, b1⟩, a2.append b2, by simp [BPk.n, a3, b3]⟩
      · cases hp
theorem pkS_ok {E : Env} {c : Cx} {h : Hp} (ho : c.Ok E) (hh : c.objs = h.objs) {b : BPk} {av : AV} {x : Den b.ty} {m : List (Option Nat)} {v : Value} (hp : pkB h b (.lf av) = some (x, m)) (hr : AVL c av [v]) :
    PS c b x m v ∧ RowsOk c (upR b x) m ∧ m.length = b.n := by
  cases b with
  | dat t =>
    simp only [pkB] at hp
    obtain ⟨y, hy, he⟩ := Option.map_eq_some_iff.1 hp
    cases he
    have hy := takeB0_ok hy
    have hy : take h t av = some (x, h) := by cases t <;> exact hy
    have h1 := take_ok ho hh hy hr
    have hc : c.at h = c := by cases c; subst hh; rfl
    rw [hc] at h1
    exact ⟨⟨rfl, h1.2.2.2⟩, RowsOk.nil c, rfl⟩
  | row e t =>
    obtain ⟨h1, o, u, h2, h3, h4, h5⟩ := pkB_row (cs := [v]) hh hp (fun av' hbt hav => by
      cases hbt
      refine ⟨v, rfl, ?_, hr⟩
      rcases hav with ⟨o, rfl⟩ | rfl
      · obtain ⟨u, hu, h1, _⟩ := hr; cases hu; exact h1
      · have hr : [v] = [Value.slice none 0 0] := hr
        cases hr; rfl)
    subst h2
    cases h3
    exact ⟨⟨o, rfl, h4, h5⟩, h1, rfl⟩
  | nd p q => simp [pkB] at hp
def PI (c : Cx) (a : Act) : (it : List (Loc × BPk)) → Den (itTy it) → List (Option Nat) → Prop
  | [], _, m => m = []
  | (.slot j, b) :: r, x, m => ∃ m1 m2, m = m1 ++ m2 ∧ m1.length = b.n ∧ PS c b x.1 m1 (a.tmps.getD j undef) ∧ PI c a r x.2 m2
  | (.box o, b) :: r, x, m => ∃ m1 m2, m = m1 ++ m2 ∧ m1.length = b.n ∧ (∃ blk e cs bt, c.φ o = .pointer (some ⟨blk, 0, none⟩) ∧ c.w.heap[blk]? = some (.cells (List.toArray cs) e (0, 0)) ∧ PB c b x.1 m1 cs ∧
      c.objs.getD o .free = .box b.ty bt) ∧ PI c a r x.2 m2
theorem box_cast {t u : Ty} {b : BT} (h : Ty.beq t u = true) : Ob.box t b = Ob.box u b := by rw [Ty.beq_eq h]
theorem pkI_ok {E : Env} {c : Cx} {h : Hp} {a : Act} {tm : List AV} (ho : c.Ok E) (hh : c.objs = h.objs) (hav : ∀ i, AVL c (tm.getD i .top) [a.tmps.getD i undef]) :
    ∀ {it : List (Loc × BPk)} {x : Den (itTy it)} {m : List (Option Nat)}, pkI tm h it = some (x, m) → PI c a it x m ∧ RowsOk c (fRows it x) m := by
  intro it
  induction it with
  | nil =>
    intro x m hp
    simp only [pkI] at hp
    cases hp
    exact ⟨rfl, RowsOk.nil c⟩
  | cons y r ih =>
    intro x m hp
    obtain ⟨l, b⟩ := y
    simp only [pkI] at hp
    split at hp
    · rename_i bt hc
      split at hp
      · rename_i z m1 y m2 h1 h2
        cases hp
        obtain ⟨i1, i2⟩ := ih h2
        cases l with
        | slot j =>
          simp only [cont, Option.some.injEq] at hc
          subst hc
          obtain ⟨k1, k2, k3⟩ := pkS_ok ho hh h1 (hav j)
          exact ⟨⟨m1, m2, rfl, k3, k1, i1⟩, k2.append i2⟩
        | box o =>
          simp only [cont] at hc
          split at hc
          · rename_i t bt' hg
            split at hc
            · rename_i hb
              cases hc
              have hg : c.objs.getD o .free = .box b.ty bt := by rw [← box_cast hb, hh]; exact hg
              have hor := ho.objs o
              rw [hg] at hor
              obtain ⟨blk, e, cs, q1, q2, q3⟩ := hor
              obtain ⟨k1, k2, k3⟩ := pkB_ok ho hh h1 q3
              exact ⟨⟨m1, m2, rfl, k3, ⟨blk, e, cs, bt, q1, q2, k1, hg⟩, i1⟩, k2.append i2⟩
            · cases hc
          · cases hc
      · cases hp
    · cases hp
theorem frzB_ok {E : Env} : ∀ {b : BPk} {bt : BT} {c : Cx} {h h' : Hp}, c.Ok E → c.objs = h.objs → frzB b bt h = some h' → ((∃ cs, BTR c b.ty bt cs) ∨ ∃ av v, bt = .lf av ∧ AVL c av [v]) →
    (c.at h').Ok E ∧ c.Evol (c.at h') ∧ h.Agr h' := by
  intro b
  induction b with
  | dat t =>
    intro bt c h h' ho hh hf hr
    simp only [frzB, Option.map_eq_some_iff] at hf
    obtain ⟨⟨x, h''⟩, hx, he⟩ := hf
    have he : h'' = h' := he
    subst he
    rcases hr with ⟨cs, hr⟩ | ⟨av, v, rfl, hr⟩
    · obtain ⟨k1, k2, k3, _⟩ := takeB_ok ho hh hx hr
      exact ⟨k1, k2, k3⟩
    · have hx : take h t av = some (x, h'') := by cases t <;> exact hx
      obtain ⟨k1, k2, k3, _⟩ := take_ok ho hh hx hr
      exact ⟨k1, k2, k3⟩
  | row e t =>
    intro bt c h h' ho hh hf hr
    simp only [frzB, Option.some.injEq] at hf
    subst hf
    have hc : c.at h = c := by cases c; subst hh; rfl
    rw [hc]
    exact ⟨ho, Cx.Evol.refl c, Hp.Agr.refl _⟩
  | nd p q ihp ihq =>
    intro bt c h h' ho hh hf hr
    cases bt with
    | lf av => simp [frzB] at hf
    | nd x y =>
      simp only [frzB] at hf
      split at hf
      · rename_i h1 e1
        rcases hr with ⟨cs, hr⟩ | ⟨av, v, hb, _⟩
        · obtain ⟨d, e, rfl, k1, k2⟩ := hr
          obtain ⟨a1, a2, a3⟩ := ihp ho hh e1 (.inl ⟨d, k1⟩)
          obtain ⟨b1, b2, b3⟩ := ihq (c := c.at h1) a1 rfl hf (.inl ⟨e, k2.evol a2⟩)
          exact ⟨b1, a2.trans b2, a3.trans b3⟩
        · cases hb
      · cases hf
theorem frzI_ok {E : Env} {a : Act} {tm : List AV} : ∀ {it : List (Loc × BPk)} {c : Cx} {h h' : Hp}, c.Ok E → c.objs = h.objs → (∀ i, AVL c (tm.getD i .top) [a.tmps.getD i undef]) → frzI tm it h = some h' →
    (c.at h').Ok E ∧ c.Evol (c.at h') ∧ h.Agr h' := by
  intro it
  induction it with
  | nil =>
    intro c h h' ho hh _ hf
    simp only [frzI, Option.some.injEq] at hf
    subst hf
    have hc : c.at h = c := by cases c; subst hh; rfl
    rw [hc]
    exact ⟨ho, Cx.Evol.refl c, Hp.Agr.refl _⟩
  | cons y r ih =>
    intro c h h' ho hh hav hf
    obtain ⟨l, b⟩ := y
    simp only [frzI] at hf
    split at hf
    · rename_i bt hc
      split at hf
      · rename_i h1 e1
        have hr : (∃ cs, BTR c b.ty bt cs) ∨ ∃ av v, bt = .lf av ∧ AVL c av [v] := by
          cases l with
          | slot j =>
            simp only [cont, Option.some.injEq] at hc
            subst hc
            exact .inr ⟨_, _, rfl, hav j⟩
          | box o =>
            simp only [cont] at hc
            split at hc
            · rename_i t bt' hg
              split at hc
              · rename_i hb
                cases hc
                have hg : c.objs.getD o .free = .box b.ty bt := by rw [← box_cast hb, hh]; exact hg
                have hor := ho.objs o
                rw [hg] at hor
                obtain ⟨blk, e, cs, q1, q2, q3⟩ := hor
                exact .inl ⟨cs, q3⟩
              · cases hc
            · cases hc
        obtain ⟨a1, a2, a3⟩ := frzB_ok ho hh e1 hr
        obtain ⟨b1, b2, b3⟩ := ih (c := c.at h1) a1 rfl (fun i => (hav i).evol a2) hf
        exact ⟨b1, a2.trans b2, a3.trans b3⟩
      · cases hf
    · cases hf
end Go.Sy
namespace Go.Sy
open Go Go.RowKit Go.Lib

def AV.lo (p : Nat → Prop) : AV → Prop
  | .ref o _ => p o
  | .rsl o => p o
  | .fn _ k => k.lo p
  | .pr a b => a.lo p ∧ b.lo p
  | .tup a => a.lo p
  | .ag _ a => a.lo p
  | .cat a b => a.lo p ∧ b.lo p
  | _ => True
def BT.lo (n : Nat → Prop) : BT → Prop
  | .lf a => a.lo n
  | .nd p q => p.lo n ∧ q.lo n
theorem getD_ge {l : List Ob} {o : Nat} (h : l.length ≤ o) : l.getD o .free = .free := by rw [List.getD_eq_getElem?_getD, List.getElem?_eq_none h]; rfl
theorem AVL.lo {c : Cx} : ∀ {av : AV} {vs : List Value}, AVL c av vs → av.lo (· < c.objs.length) := by
  intro av
  induction av with
  | ref o p =>
    intro vs h
    obtain ⟨u, _, _, hr⟩ := h
    rcases Nat.lt_or_ge o c.objs.length with h1 | h1
    · exact h1
    · unfold RefRel at hr; rw [getD_ge h1] at hr; exact hr.elim
  | rsl o =>
    intro vs h
    obtain ⟨u, _, _, hr⟩ := h
    rcases Nat.lt_or_ge o c.objs.length with h1 | h1
    · exact h1
    · unfold RslRel at hr; rw [getD_ge h1] at hr; exact hr.elim
  | fn f k ih => intro vs h; obtain ⟨cs, _, hk⟩ := h; exact ih hk
  | pr a b iha ihb => intro vs h; obtain ⟨v, r, _, h1, h2⟩ := h; exact ⟨iha h1, ihb h2⟩
  | tup a ih => intro vs h; obtain ⟨cs, _, hk⟩ := h; exact ih hk
  | ag t a ih => intro vs h; obtain ⟨_, cs, _, hk⟩ := h; exact ih hk
  | cat a b iha ihb => intro vs h; obtain ⟨d, e, _, h1, h2⟩ := h; exact ⟨iha h1, ihb h2⟩
  | _ => intro vs h; trivial
theorem LfR.lo {c : Cx} {t : Ty} {av : AV} {cs : List Value} (h : LfR c t av cs) : av.lo (· < c.objs.length) := by
  cases av <;> first
    | trivial
    | (obtain ⟨_, _, u, _, _, h3⟩ := h; exact h3.lo)
theorem BTR.lo {c : Cx} : ∀ {b : BT} {t : Ty} {cs : List Value}, BTR c t b cs → b.lo (· < c.objs.length) := by
  intro b
  induction b with
  | lf av => intro t cs h; exact (BTR_lf.1 h).lo
  | nd p q ihp ihq =>
    intro t cs h
    cases t with
    | cons a b => obtain ⟨d, e, _, h1, h2⟩ := h; exact ⟨ihp h1, ihq h2⟩
    | _ => exact h.elim
/-- From one context to another over the same memory. -/
structure Mv (c c' : Cx) (n : Nat → Prop) : Prop where
  w : c'.w = c.w
  okr : ∀ b, c.okr b → c'.okr b
  okb : ∀ b, c.okb b → c'.w.heap[b]? = c.w.heap[b]? ∧ c'.okb b
  ref : ∀ o p u, n o → RefRel c o p u → RefRel c' o p u
  rsl : ∀ o u, n o → RslRel c o u → RslRel c' o u
theorem AVL.mv {c c' : Cx} {n : Nat → Prop} (h : Mv c c' n) : ∀ {av : AV} {vs : List Value}, av.lo n → AVL c av vs → AVL c' av vs := by
  intro av
  induction av with
  | top => intro vs _ hv; exact hv
  | v t x => intro vs _ hv; obtain ⟨u, rfl, hu⟩ := hv; exact ⟨u, rfl, hu.mono h.okb⟩
  | kb b => intro vs _ hv; exact hv
  | bv t l =>
    intro vs _ hv
    obtain ⟨a, cap, rfl, hcap, hv⟩ := hv
    refine ⟨a, cap, rfl, hcap, ?_⟩
    rcases hv with hv | ⟨b, o, rfl, hb, hc⟩
    · exact .inl hv
    · refine .inr ⟨b, o, rfl, h.okr b hb, fun i x hx => ?_⟩
      obtain ⟨ds, h1, h2⟩ := hc i x hx
      exact ⟨ds, by rw [h.w]; exact h1, h2.mono h.okb⟩
  | dp t x => intro vs _ hv; obtain ⟨b, o, ds, rfl, hb, h1, h2⟩ := hv; exact ⟨b, o, ds, rfl, h.okr b hb, by rw [h.w]; exact h1, h2.mono h.okb⟩
  | ref o p => intro vs hl hv; obtain ⟨u, rfl, h1, hu⟩ := hv; exact ⟨u, rfl, h1, h.ref o p u hl hu⟩
  | rsl o => intro vs hl hv; obtain ⟨u, rfl, h1, hu⟩ := hv; exact ⟨u, rfl, h1, h.rsl o u hl hu⟩
  | nils => intro vs _ hv; exact hv
  | fn f k ih => intro vs hl hv; obtain ⟨cs, rfl, hu⟩ := hv; exact ⟨cs, rfl, ih hl hu⟩
  | un => intro vs _ hv; exact hv
  | pr a b iha ihb => intro vs hl hv; obtain ⟨v, r, rfl, h1, h2⟩ := hv; exact ⟨v, r, rfl, iha hl.1 h1, ihb hl.2 h2⟩
  | tup a ih => intro vs hl hv; obtain ⟨cs, rfl, hu⟩ := hv; exact ⟨cs, rfl, ih hl hu⟩
  | ag t a ih => intro vs hl hv; obtain ⟨ht, cs, rfl, hu⟩ := hv; exact ⟨ht, cs, rfl, ih hl hu⟩
  | cl t x => intro vs _ hv; exact RepC.mono h.okb hv
  | cat a b iha ihb => intro vs hl hv; obtain ⟨d, e, rfl, h1, h2⟩ := hv; exact ⟨d, e, rfl, iha hl.1 h1, ihb hl.2 h2⟩
theorem LfR.mv {c c' : Cx} {n : Nat → Prop} (h : Mv c c' n) {t : Ty} {av : AV} {cs : List Value} (hl : av.lo n) (hr : LfR c t av cs) : LfR c' t av cs := by
  cases av <;> first
    | exact hr
    | exact ⟨hr.1, hr.2.mono h.okb⟩
    | (obtain ⟨h1, h2, u, h3, h4, h5⟩ := hr; exact ⟨h1, h2, u, h3, h4, h5.mv h hl⟩)
theorem BTR.mv {c c' : Cx} {n : Nat → Prop} (h : Mv c c' n) : ∀ {b : BT} {t : Ty} {cs : List Value}, b.lo n → BTR c t b cs → BTR c' t b cs := by
  intro b
  induction b with
  | lf av => intro t cs hl hr; exact BTR_lf.2 ((BTR_lf.1 hr).mv h hl)
  | nd p q ihp ihq =>
    intro t cs hl hr
    cases t with
    | cons a b => obtain ⟨d, e, rfl, h1, h2⟩ := hr; exact ⟨d, e, rfl, ihp hl.1 h1, ihq hl.2 h2⟩
    | _ => exact hr
def Ob.lo (n : Nat → Prop) : Ob → Prop
  | .box _ b => b.lo n
  | _ => True
theorem ORel.lo {c : Cx} {u : Value} {ob : Ob} (h : ORel c u ob) : ob.lo (· < c.objs.length) := by
  cases ob with
  | box t b => obtain ⟨_, _, _, _, _, h⟩ := h; exact h.lo
  | _ => trivial
theorem ORel.mv {c c' : Cx} {n : Nat → Prop} (h : Mv c c' n) {u : Value} {ob : Ob} (hl : ob.lo n) (ho : ORel c u ob) : ORel c' u ob := by
  cases ob with
  | free => trivial
  | dead => trivial
  | hidB _ => trivial
  | hidR _ _ _ => trivial
  | hid0 => trivial
  | box t b =>
    obtain ⟨blk, e, cs, rfl, h1, h2⟩ := ho
    exact ⟨blk, e, cs, rfl, by rw [h.w]; exact h1, h2.mv h hl⟩
  | row e t l own =>
    rcases ho with ho | ⟨b, cap, xs, rfl, hc, h1, h2⟩
    · exact .inl ho
    · exact .inr ⟨b, cap, xs, rfl, hc, by rw [h.w]; exact h1, fun i x hx => (h2 i x hx).mono h.okb⟩

section
variable {c : Cx} {L : List Ob} {s : Nat → Option Nat} (hb : ∀ b, c.okb b → c.w.heap[b]? = c.w.heap[b]? ∧ (c.re L s).okb b)
include hb
omit hb in
theorem rsl_up {n : Nat} {e : TypeId} {t : Ty} {l : List (Den t)} {o : Option Nat} {u : Value} (h1 : s n = o) (h2 : L.getD n .free = .row e t l true) (h3 : u = srcV c o) : RslRel (c.re L s) n u := by
  unfold RslRel
  have h2 : (c.re L s).objs.getD n .free = .row e t l true := h2
  rw [h2]
  show u = (match s n with | some o' => c.φ o' | none => .slice none 0 0)
  rw [h1, h3]
  cases o <;> rfl
theorem upB_ok : ∀ {b : BPk} {x : Den b.ty} {m : List (Option Nat)} {cs : List Value} {n : Nat}, PB c b x m cs → m.length = b.n → (∀ k o, m[k]? = some o → s (n + k) = o) →
    (∀ k ob, (upR b x)[k]? = some ob → L.getD (n + k) .free = ob) → (upR b x).length = b.n → BTR (c.re L s) b.ty (upB n b x) cs := by
  intro b
  induction b with
  | dat t => intro x m cs n hp _ _ _ _; exact BTR_v (hp.2.mono hb)
  | row e t =>
    intro x m cs n hp hn hm hL _
    obtain ⟨o, u, rfl, rfl, h1, h2⟩ := hp
    refine BTR_lf.2 ⟨rfl, rfl, u, rfl, h1, u, rfl, h1, ?_⟩
    exact rsl_up (hm 0 o rfl) (hL 0 _ rfl) h2
  | nd p q ihp ihq =>
    intro x m cs n hp hn hm hL hl
    obtain ⟨m1, m2, d, e, rfl, rfl, h1, h2⟩ := hp
    have lenR : ∀ (b : BPk) (x : Den b.ty), (upR b x).length = b.n := by
      intro b
      induction b with
      | dat t => intro x; rfl
      | row e t => intro x; rfl
      | nd p q ihp ihq => intro x; simp only [upR, List.length_append, BPk.n, ihp, ihq]
    have lenM : ∀ {b : BPk} {x : Den b.ty} {m : List (Option Nat)} {cs : List Value}, PB c b x m cs → m.length = b.n := by
      intro b
      induction b with
      | dat t => intro x m cs h; rw [h.1]; rfl
      | row e t => intro x m cs h; obtain ⟨o, u, rfl, _⟩ := h; rfl
      | nd p q ihp ihq => intro x m cs h; obtain ⟨m1, m2, d, e, rfl, _, k1, k2⟩ := h; simp [BPk.n, ihp k1, ihq k2]
    have l1 := lenM h1
    have l2 := lenM h2
    refine ⟨d, e, rfl, ihp h1 l1 (fun k o hk => hm k o ?_) (fun k ob hk => hL k ob ?_) (lenR p x.1), ihq h2 l2 (fun k o hk => ?_) (fun k ob hk => ?_) (lenR q x.2)⟩
    · have : k < m1.length := (List.getElem?_eq_some_iff.1 hk).1
      rw [List.getElem?_append_left this]; exact hk
    · have : k < (upR p x.1).length := (List.getElem?_eq_some_iff.1 hk).1
      show (upR p x.1 ++ upR q x.2)[k]? = some ob
      rw [List.getElem?_append_left this]; exact hk
    · have := hm (p.n + k) o (by rw [← l1, List.getElem?_append_right (by omega), Nat.add_sub_cancel_left]; exact hk)
      rw [Nat.add_assoc]; exact this
    · have := hL (p.n + k) ob (by
        show (upR p x.1 ++ upR q x.2)[p.n + k]? = some ob
        rw [← lenR p x.1, List.getElem?_append_right (by omega), Nat.add_sub_cancel_left]; exact hk)
      rw [Nat.add_assoc]; exact this
theorem upS_ok {b : BPk} {x : Den b.ty} {m : List (Option Nat)} {v : Value} {n : Nat} (hp : PS c b x m v) (hm : ∀ k o, m[k]? = some o → s (n + k) = o) (hL : ∀ k ob, (upR b x)[k]? = some ob → L.getD (n + k) .free = ob) :
    AVL (c.re L s) (upB n b x).leaf [v] := by
  cases b with
  | dat t => exact AVL_v (hp.2.mono hb)
  | row e t =>
    obtain ⟨o, rfl, h1, h2⟩ := hp
    exact ⟨v, rfl, h1, rsl_up (hm 0 o rfl) (hL 0 _ rfl) h2⟩
  | nd p q => exact hp.elim
omit hb in
theorem upR_len : ∀ (b : BPk) (x : Den b.ty), (upR b x).length = b.n := by
  intro b
  induction b with
  | dat t => intro x; rfl
  | row e t => intro x; rfl
  | nd p q ihp ihq => intro x; simp only [upR, List.length_append, BPk.n, ihp, ihq]
theorem upI_ok {a : Act} : ∀ {it : List (Loc × BPk)} {x : Den (itTy it)} {m : List (Option Nat)} {n : Nat}, PI c a it x m → (∀ k o, m[k]? = some o → s (n + k) = o) →
    (∀ k ob, (fRows it x)[k]? = some ob → L.getD (n + k) .free = ob) →
    (∀ i av, fSlot it x n i = some av → AVL (c.re L s) av [a.tmps.getD i undef]) ∧
    (∀ o ob, fBox it x n o = some ob → ∃ t bt bt0, ob = .box t bt ∧ c.objs.getD o .free = .box t bt0 ∧ ORel (c.re L s) (c.φ o) ob) := by
  intro it
  induction it with
  | nil => intro x m n _ _ _; exact ⟨fun i av h => by simp [fSlot] at h, fun o ob h => by simp [fBox] at h⟩
  | cons y r ih =>
    intro x m n hp hm hL
    obtain ⟨l, b⟩ := y
    cases l with
    | slot j =>
      obtain ⟨m1, m2, rfl, l1, h1, h2⟩ := hp
      obtain ⟨i1, i2⟩ := ih (n := n + b.n) h2 (fun k o hk => by
        have := hm (b.n + k) o (by rw [← l1, List.getElem?_append_right (by omega), Nat.add_sub_cancel_left]; exact hk)
        rw [Nat.add_assoc]; exact this) (fun k ob hk => by
        have := hL (b.n + k) ob (by
          show (upR b x.1 ++ fRows r x.2)[b.n + k]? = some ob
          rw [← upR_len b x.1, List.getElem?_append_right (by omega), Nat.add_sub_cancel_left]; exact hk)
        rw [Nat.add_assoc]; exact this)
      refine ⟨fun i av hs => ?_, fun o ob hs => i2 o ob hs⟩
      simp only [fSlot] at hs
      split at hs
      · rename_i e
        have e := Nat.eq_of_beq_eq_true e
        subst e
        cases hs
        refine upS_ok hb h1 (fun k o hk => hm k o ?_) (fun k ob hk => hL k ob ?_)
        · have : k < m1.length := (List.getElem?_eq_some_iff.1 hk).1
          rw [List.getElem?_append_left this]; exact hk
        · have : k < (upR b x.1).length := (List.getElem?_eq_some_iff.1 hk).1
          show (upR b x.1 ++ fRows r x.2)[k]? = some ob
          rw [List.getElem?_append_left this]; exact hk
      · exact i1 i av hs
    | box p =>
      obtain ⟨m1, m2, rfl, l1, ⟨blk, e, cs, bt, q1, q2, h1, q4⟩, h2⟩ := hp
      obtain ⟨i1, i2⟩ := ih (n := n + b.n) h2 (fun k o hk => by
        have := hm (b.n + k) o (by rw [← l1, List.getElem?_append_right (by omega), Nat.add_sub_cancel_left]; exact hk)
        rw [Nat.add_assoc]; exact this) (fun k ob hk => by
        have := hL (b.n + k) ob (by
          show (upR b x.1 ++ fRows r x.2)[b.n + k]? = some ob
          rw [← upR_len b x.1, List.getElem?_append_right (by omega), Nat.add_sub_cancel_left]; exact hk)
        rw [Nat.add_assoc]; exact this)
      refine ⟨fun i av hs => i1 i av hs, fun o ob hs => ?_⟩
      simp only [fBox] at hs
      split at hs
      · rename_i e0
        have e0 := Nat.eq_of_beq_eq_true e0
        subst e0
        cases hs
        refine ⟨b.ty, _, bt, rfl, q4, blk, e, cs, q1, q2, ?_⟩
        refine upB_ok hb h1 l1 (fun k o hk => hm k o ?_) (fun k ob hk => hL k ob ?_) (upR_len b x.1)
        · have : k < m1.length := (List.getElem?_eq_some_iff.1 hk).1
          rw [List.getElem?_append_left this]; exact hk
        · have : k < (upR b x.1).length := (List.getElem?_eq_some_iff.1 hk).1
          show (upR b x.1 ++ fRows r x.2)[k]? = some ob
          rw [List.getElem?_append_left this]; exact hk
      · exact i2 o ob hs
end
theorem fBox_none {it : List (Loc × BPk)} : ∀ {x : Den (itTy it)} {n o : Nat}, (boxesOf it).contains o = false → fBox it x n o = none := by
  induction it with
  | nil => intro x n o _; rfl
  | cons y r ih =>
    intro x n o h
    obtain ⟨l, b⟩ := y
    cases l with
    | slot j => exact ih h
    | box p =>
      simp only [boxesOf, List.contains_cons, Bool.or_eq_false_iff] at h
      simp only [fBox]
      rw [if_neg]
      · exact ih h.2
      · intro e
        have := Nat.eq_of_beq_eq_true e
        subst this
        simp at h
theorem fBox_some {it : List (Loc × BPk)} : ∀ {x : Den (itTy it)} {n o : Nat}, isBox it o = true → ∃ ob, fBox it x n o = some ob := by
  induction it with
  | nil => intro x n o h; simp [isBox] at h
  | cons y r ih =>
    intro x n o h
    obtain ⟨l, b⟩ := y
    simp only [isBox, List.any_cons, Bool.or_eq_true] at h
    cases l with
    | slot j =>
      simp only [fBox]
      rcases h with h | h
      · cases h
      · exact ih h
    | box p =>
      simp only [fBox]
      split
      · exact ⟨_, rfl⟩
      · rename_i hne
        rcases h with h | h
        · exact absurd h hne
        · exact ih h
theorem movOk_lo {kd : List Nat} {n0 : Nat} : ∀ {m : List (Option Nat)} {k o : Nat}, movOk kd n0 m = true → m[k]? = some (some o) → n0 ≤ o ∨ kd.contains o = true := by
  intro m
  induction m with
  | nil => intro k o _ h; simp at h
  | cons y r ih =>
    intro k o h hk
    cases k with
    | zero =>
      simp only [List.getElem?_cons_zero, Option.some.injEq] at hk
      subst hk
      simp only [movOk, Bool.and_eq_true, Bool.or_eq_true] at h
      rcases h.1.1 with h1 | h1
      · exact .inl (Nat.le_of_ble_eq_true h1)
      · exact .inr h1
    | succ k =>
      cases y with
      | none => exact ih h hk
      | some p => simp only [movOk, Bool.and_eq_true] at h; exact ih h.2 hk
theorem movOk_inj {kd : List Nat} {n0 : Nat} : ∀ {m : List (Option Nat)} {j k o : Nat}, movOk kd n0 m = true → m[j]? = some (some o) → m[k]? = some (some o) → j = k := by
  intro m
  induction m with
  | nil => intro j k o _ h; simp at h
  | cons y r ih =>
    intro j k o h hj hk
    have tail : movOk kd n0 r = true := by
      cases y with
      | none => exact h
      | some p => simp only [movOk, Bool.and_eq_true] at h; exact h.2
    have hd : ∀ i : Nat, y = some o → r[i]? = some (some o) → False := by
      intro i hy hi
      subst hy
      simp only [movOk, Bool.and_eq_true] at h
      have : (some o) ∈ r := List.mem_of_getElem? hi
      have h1 := h.1.2
      simp at h1
      exact h1 this
    cases j with
    | zero =>
      simp only [List.getElem?_cons_zero, Option.some.injEq] at hj
      cases k with
      | zero => rfl
      | succ k => exact (hd k hj (by simpa using hk)).elim
    | succ j =>
      cases k with
      | zero => simp only [List.getElem?_cons_zero, Option.some.injEq] at hk; exact (hd j hk (by simpa using hj)).elim
      | succ k =>
        have := ih (j := j) (k := k) tail (by simpa using hj) (by simpa using hk)
        rw [this]
end Go.Sy
