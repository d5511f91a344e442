/- A symbolic evaluator of the model's code, shown sound once for every program (part 3 of 9): what it computes of a function is what the function does. -/
import Derived.Test.YtageoaecepnfnaaGreatDoorSyB
namespace Go.Sy
open Go Go.RowKit

theorem foldl_spl : ∀ (vs : List Value) (k off : Nat) (cells : Array Value), off + k + vs.length ≤ cells.size →
    ((vs.zipIdx k).foldl (fun cs (x : Value × Nat) => cs.setIfInBounds (off + x.2) x.1) cells).toList = spl cells.toList (off + k) vs := by
  intro vs
  induction vs with
  | nil => intro k off cells h; simp [spl]
  | cons v r ih =>
    intro k off cells h
    simp only [List.length_cons] at h
    simp only [List.zipIdx_cons, List.foldl_cons]
    rw [ih (k + 1) off _ (by simp; omega)]
    apply List.ext_getElem?
    intro i
    have hs : off + (k + 1) + r.length ≤ (cells.setIfInBounds (off + k) v).toList.length := by simp; omega
    have hs2 : off + k + (v :: r).length ≤ cells.toList.length := by simp; omega
    rw [spl_get hs, spl_get hs2]
    simp only [Array.toList_setIfInBounds, List.getElem?_set, List.length_cons, Array.length_toList]
    by_cases h1 : i < off + k
    · rw [if_pos (by omega), if_pos h1, if_neg (by omega)]
    · rw [if_neg h1]
      by_cases h2 : i = off + k
      · subst h2
        rw [if_pos (by omega), if_pos rfl, if_pos (by omega), if_pos (by omega)]
        simp
      · rw [if_neg (by omega)]
        by_cases h3 : i < off + (k + 1) + r.length
        · rw [if_pos h3, if_pos (by omega)]
          have : i - (off + k) = (i - (off + (k + 1))) + 1 := by omega
          rw [this, List.getElem?_cons_succ]
        · rw [if_neg h3, if_neg (by omega), if_neg (by omega)]
theorem fill_one (v : Value) (off : Nat) (cells : Array Value) (h : off + v.cells.size ≤ cells.size) :
    (v.cells.zipIdx.foldl (fun cs (c, j) => cs.setIfInBounds (off + j) c) cells).toList = spl cells.toList off v.cells.toList := by
  have := foldl_spl v.cells.toList 0 off cells (by simpa using h)
  rw [Nat.add_zero] at this
  rw [← this, ← Array.foldl_toList, Array.toList_zipIdx]
/-- The parts of a struct or an array, laid one by one. -/
def buildP (h : Hp) (τ : Ty) (acc : Den τ) : List (List Sp × Ty × AV) → Option (Den τ × Hp)
  | [] => some (acc, h)
  | (p, u, av) :: r => match take h u av with
    | some (x, h1) => (match setP τ acc p ⟨u, x⟩ with
      | some acc' => buildP h1 τ acc' r
      | none => none)
    | none => none
theorem buildP_ok {E : Env} {τ : Ty} {place : Nat → Option (Nat × Nat)} : ∀ {qs : List (Nat × Value)} {ps : List (List Sp × Ty × AV)} {c : Cx} {h h' : Hp} {acc x : Den τ} {cells : Array Value},
    c.Ok E → c.objs = h.objs → buildP h τ acc ps = some (x, h') → RepC c.w c.okb τ acc cells.toList →
    qs.length = ps.length → (∀ (i : Nat) (q : Nat × Value) (p : List Sp × Ty × AV), qs[i]? = some q → ps[i]? = some p → AVL c p.2.2 [q.2] ∧ ∃ off, pOff τ p.1 = some (off, p.2.1) ∧ place q.1 = some (off, p.2.1.size)) →
    (c.at h').Ok E ∧ c.Evol (c.at h') ∧ h.Agr h' ∧ ∃ cells', Instr.fill place cells qs = some cells' ∧ RepC c.w (c.at h').okb τ x cells'.toList := by
  intro qs
  induction qs with
  | nil =>
    intro ps c h h' acc x cells ho hh hb hr hl hq
    match ps, hl with
    | [], _ =>
      simp only [buildP, Option.some.injEq, Prod.mk.injEq] at hb
      obtain ⟨rfl, rfl⟩ := hb
      have hc : c.at h = c := by cases c; subst hh; rfl
      rw [hc]
      exact ⟨ho, Cx.Evol.refl c, Hp.Agr.refl _, cells, rfl, hr⟩
  | cons q qs ih =>
    intro ps c h h' acc x cells ho hh hb hr hl hq
    match ps, hl with
    | p :: ps, hl =>
      obtain ⟨hav, off, ho1, ho2⟩ := hq 0 q p rfl rfl
      obtain ⟨pp, u, av⟩ := p
      simp only [buildP] at hb
      split at hb
      · rename_i y h1 ht
        obtain ⟨a1, a2, a3, a4⟩ := take_ok ho hh ht hav
        split at hb
        · rename_i acc' hs
          have hds := a4.toCells
          have hr1 := hr.mono (fun k hk => ⟨rfl, (a2.okb k hk).2⟩ : ∀ k, c.okb k → c.w.heap[k]? = c.w.heap[k]? ∧ (c.at h1).okb k)
          have hnew := setP_ok ho1 hr1 hs hds
          have hle := pOff_le ho1
          have hlen : q.2.cells.size = u.size := by simpa using hds.length
          have hcl : cells.size = τ.size := by simpa using hr.length
          have hf1 := fill_one q.2 off cells (by simp only at ho1 hle; omega)
          rw [← hf1] at hnew
          obtain ⟨b1, b2, b3, cells', b4, b5⟩ := ih (c := c.at h1) a1 rfl hb hnew (by simpa using hl) (fun i q' p' hq' hp' => by
            obtain ⟨k1, k2⟩ := hq (i + 1) q' p' (by simpa using hq') (by simpa using hp')
            exact ⟨k1.evol a2, k2⟩)
          refine ⟨b1, a2.trans b2, a3.trans b3, cells', ?_, b5⟩
          obtain ⟨qi, qv⟩ := q
          simp only at ho2 hlen hf1 b4
          simp only [Instr.fill, ho2]
          rw [if_neg (by
            simp only [Bool.or_eq_true, decide_eq_true_eq, not_or, ne_eq]
            simp only at ho1 hle
            exact ⟨fun hne => hne hlen, by omega⟩)]
          exact b4
        · cases hb
      · cases hb
/-- The parts of a struct, laid one by one, kept as they are. -/
def buildT (τ : Ty) (acc : BT) : List (List Sp × Ty × AV) → Option BT
  | [] => some acc
  | (p, _, av) :: r => match setB τ acc p av with
    | some acc' => buildT τ acc' r
    | none => none
theorem buildT_ok {c : Cx} {τ : Ty} {place : Nat → Option (Nat × Nat)} : ∀ {qs : List (Nat × Value)} {ps : List (List Sp × Ty × AV)} {acc b : BT} {cells : Array Value},
    buildT τ acc ps = some b → BTR c τ acc cells.toList →
    qs.length = ps.length → (∀ (i : Nat) (q : Nat × Value) (p : List Sp × Ty × AV), qs[i]? = some q → ps[i]? = some p → AVL c p.2.2 [q.2] ∧ ∃ off, pOff τ p.1 = some (off, p.2.1) ∧ place q.1 = some (off, p.2.1.size)) →
    ∃ cells', Instr.fill place cells qs = some cells' ∧ BTR c τ b cells'.toList := by
  intro qs
  induction qs with
  | nil =>
    intro ps acc b cells hb hr hl hq
    match ps, hl with
    | [], _ =>
      simp only [buildT, Option.some.injEq] at hb
      subst hb
      exact ⟨cells, rfl, hr⟩
  | cons q qs ih =>
    intro ps acc b cells hb hr hl hq
    match ps, hl with
    | p :: ps, hl =>
      obtain ⟨hav, off, ho1, ho2⟩ := hq 0 q p rfl rfl
      obtain ⟨pp, u, av⟩ := p
      simp only [buildT] at hb
      split at hb
      · rename_i acc' hs
        obtain ⟨hlen, hnew⟩ := setB_ok ho1 hr hs hav
        have hle := pOff_le ho1
        have hlen : q.2.cells.size = u.size := by simpa using hlen
        have hcl : cells.size = τ.size := by simpa using hr.length
        have hf1 := fill_one q.2 off cells (by simp only at ho1 hle; omega)
        rw [← hf1] at hnew
        obtain ⟨cells', b4, b5⟩ := ih hb hnew (by simpa using hl) (fun i q' p' hq' hp' => hq (i + 1) q' p' (by simpa using hq') (by simpa using hp'))
        refine ⟨cells', ?_, b5⟩
        obtain ⟨qi, qv⟩ := q
        simp only at ho2 hlen hf1 b4
        simp only [Instr.fill, ho2]
        rw [if_neg (by
          simp only [Bool.or_eq_true, decide_eq_true_eq, not_or, ne_eq]
          simp only at ho1 hle
          exact ⟨fun hne => hne hlen, by omega⟩)]
        exact b4
      · cases hb
def zeroBT : Ty → BT
  | .cons a b => .nd (zeroBT a) (zeroBT b)
  | .sl _ => .lf .nils
  | .opq => .lf .top
  | τ => .lf (.v τ (dflt τ))
/-- A struct literal that holds rows of the call's own. -/
def buildO (h : Hp) (τ : Ty) (ps : List (List Sp × Ty × AV)) : Option AV :=
  match buildT τ (zeroBT τ) ps with
  | some b => if ownB h b then (toA b).map (.ag τ) else none
  | none => none
/-- The parts of a struct literal: their ways and types. -/
def stParts (τ : Ty) (ev : Operand → AV) : List (Nat × Operand) → Option (List (List Sp × Ty × AV))
  | [] => some []
  | (i, x) :: r => match fld τ i with
    | some (_, u, p) => (stParts τ ev r).map fun l => (p, u, ev x) :: l
    | none => none
def arParts (u : Ty) (n : Nat) (ev : Operand → AV) : List (Nat × Operand) → Option (List (List Sp × Ty × AV))
  | [] => some []
  | (i, x) :: r => if i < n then (arParts u n ev r).map fun l => ([.ix i], u, ev x) :: l else none
def oBuild (E : Env) (h : Hp) (t : TypeId) (ev : Operand → AV) (parts : List (Nat × Operand)) : Option (Bool × AV × Hp) :=
  match look E.ty t with
  | some (.cons a b, _) => (match stParts (.cons a b) ev parts with
    | some ps => (match buildO h (.cons a b) ps with
      | some av => some (true, av, h)
      | none => (buildP h (.cons a b) (dflt (.cons a b)) ps).map fun r => (true, .v (.cons a b) r.1, r.2))
    | none => none)
  | some (.nil, _) => (match parts with | [] => some (true, .v .nil (), h) | _ => none)
  | some (.arr n u, _) => (match arParts u n ev parts with
    | some ps => (buildP h (.arr n u) (dflt (.arr n u)) ps).map fun r => (true, .v (.arr n u) r.1, r.2)
    | none => none)
  | _ => none
theorem chk_size {P : Program} {τ : Ty} {t : TypeId} (h : chk P τ (.inl t) = true) : (P.info? t).map (·.size) = some τ.size := by
  obtain ⟨i, z, hf⟩ := chk_facts h
  simp [hf.info, hf.size]
theorem chk_places {P : Program} : ∀ {τ : Ty} {x : Nat × List Field}, chk P τ (.inr x) = true → ∃ places : List (Nat × Nat), x.2.mapM (fun f => (P.info? f.type).map fun i => (f.offset, i.size)) = some places ∧
    ∀ i o u p, fld τ i = some (o, u, p) → places[i]? = some (x.1 + o, u.size) := by
  intro τ
  induction τ with
  | cons a b iha ihb =>
    intro x h
    obtain ⟨off, fs⟩ := x
    cases fs with
    | nil => simp [chk] at h
    | cons f r =>
      simp only [chk, Bool.and_eq_true, fOk, beq_iff_eq, bne_iff_ne] at h
      obtain ⟨pl, h1, h2⟩ := ihb h.2
      obtain ⟨i, z, hf⟩ := chk_facts h.1.2
      refine ⟨(f.offset, i.size) :: pl, ?_, fun j o u p hj => ?_⟩
      · simp only [List.mapM_cons, Option.bind_eq_bind, Option.pure_def, hf.info, Option.map_some, Option.bind_some]
        simp only at h1
        rw [h1]; rfl
      · cases j with
        | zero => simp [fld] at hj; obtain ⟨rfl, rfl, rfl⟩ := hj; simp [hf.size, h.1.1.1]
        | succ j =>
          simp only [fld, Option.map_eq_some_iff] at hj
          obtain ⟨⟨o', u', p'⟩, hf', he⟩ := hj
          cases he
          rw [List.getElem?_cons_succ, h2 j o' u' p' hf']
          simp; omega
  | nil => intro x h; simp [chk] at h; exact ⟨[], by rw [h]; rfl, fun i o u p hf => by simp [fld] at hf⟩
  | _ => intro x h; simp [chk] at h
theorem built_struct {P : Program} {a b : Ty} {t : TypeId} (h : chk P (.cons a b) (.inl t) = true) : ∃ (z : Value) (places : List (Nat × Nat)), zChk (.cons a b) z.cells.toList = true ∧
    (∀ i o u p, fld (.cons a b) i = some (o, u, p) → places[i]? = some (o, u.size)) ∧ ∀ parts, P.built t parts = Instr.fill (places.toArray[·]?) z.cells parts := by
  obtain ⟨i, z, hf⟩ := chk_facts h
  simp only [chk, Bool.and_eq_true] at h
  have h2 := h.2
  split at h2
  · rename_i f r h3
    have h4 : chk P (.cons a b) (.inr (0, f :: r)) = true := by
      simp only [chk, Bool.and_eq_true, Nat.zero_add]; simpa only [Bool.and_eq_true] using h2
    obtain ⟨pl, k1, k2⟩ := chk_places h4
    refine ⟨z, pl, hf.zchk, fun i o u p hi => by simpa using k2 i o u p hi, fun parts => ?_⟩
    simp only at k1
    simp only [Program.built, hf.info, stOf_eq h3, hf.zero, k1]
  · cases h2
theorem built_arr {P : Program} {n : Nat} {u : Ty} {t : TypeId} (h : chk P (.arr n u) (.inl t) = true) : ∃ (z : Value), zChk (.arr n u) z.cells.toList = true ∧
    ∀ parts, P.built t parts = Instr.fill (fun i => some (i * u.size, u.size)) z.cells parts := by
  obtain ⟨i, z, hf⟩ := chk_facts h
  obtain ⟨e, h1, h2⟩ := chk_arr h
  obtain ⟨i2, z2, hf2⟩ := chk_facts h2
  exact ⟨z, hf.zchk, fun parts => by simp only [Program.built, hf.info, h1, hf.zero, hf2.info, hf2.size]⟩
theorem stParts_ok {τ : Ty} {ev : Operand → AV} : ∀ {l : List (Nat × Operand)} {ps : List (List Sp × Ty × AV)}, stParts τ ev l = some ps → ps.length = l.length ∧
    ∀ (i : Nat) (q : Nat × Operand) (p : List Sp × Ty × AV), l[i]? = some q → ps[i]? = some p → p.2.2 = ev q.2 ∧ ∃ o, fld τ q.1 = some (o, p.2.1, p.1) := by
  intro l
  induction l with
  | nil => intro ps h; simp [stParts] at h; subst h; exact ⟨rfl, fun i q p hq => by simp at hq⟩
  | cons x r ih =>
    intro ps h
    obtain ⟨j, x⟩ := x
    simp only [stParts] at h
    split at h
    · rename_i o u p hf
      simp only [Option.map_eq_some_iff] at h
      obtain ⟨l', h1, rfl⟩ := h
      obtain ⟨h2, h3⟩ := ih h1
      refine ⟨by simp [h2], fun i q p hq hp => ?_⟩
      cases i with
      | zero => simp at hq hp; subst hq; subst hp; exact ⟨rfl, o, hf⟩
      | succ i => exact h3 i q p (by simpa using hq) (by simpa using hp)
    · cases h
theorem arParts_ok {u : Ty} {n : Nat} {ev : Operand → AV} : ∀ {l : List (Nat × Operand)} {ps : List (List Sp × Ty × AV)}, arParts u n ev l = some ps → ps.length = l.length ∧
    ∀ (i : Nat) (q : Nat × Operand) (p : List Sp × Ty × AV), l[i]? = some q → ps[i]? = some p → p.2.2 = ev q.2 ∧ p.2.1 = u ∧ p.1 = [.ix q.1] ∧ q.1 < n := by
  intro l
  induction l with
  | nil => intro ps h; simp [arParts] at h; subst h; exact ⟨rfl, fun i q p hq => by simp at hq⟩
  | cons x r ih =>
    intro ps h
    obtain ⟨j, x⟩ := x
    simp only [arParts] at h
    split at h
    · rename_i hlt
      simp only [Option.map_eq_some_iff] at h
      obtain ⟨l', h1, rfl⟩ := h
      obtain ⟨h2, h3⟩ := ih h1
      refine ⟨by simp [h2], fun i q p hq hp => ?_⟩
      cases i with
      | zero => simp at hq hp; subst hq; subst hp; exact ⟨rfl, rfl, rfl, hlt⟩
      | succ i => exact h3 i q p (by simpa using hq) (by simpa using hp)
    · cases h
theorem zeroBT_ok {c : Cx} : ∀ {τ : Ty} {cs : List Value}, zChk τ cs = true → BTR c τ (zeroBT τ) cs := by
  intro τ
  induction τ with
  | cons a b iha ihb =>
    intro cs h
    simp only [zChk, Bool.and_eq_true] at h
    exact ⟨_, _, (List.take_append_drop a.size cs).symm, iha h.1, ihb h.2⟩
  | sl t ih =>
    intro cs h
    unfold zChk at h
    split at h <;> simp_all
    exact BTR_lf.2 ⟨rfl, rfl, _, rfl, rfl, rfl⟩
  | opq =>
    intro cs h
    unfold zChk at h
    split at h <;> simp_all
    exact BTR_lf.2 ⟨rfl, by simpa using h⟩
  | _ => intro cs h; exact BTR_v (zChk_ok h)
theorem oBuild_ok {E : Env} {c : Cx} {h h' : Hp} {t : TypeId} {ev : Operand → AV} {ρ : Operand → Value} {parts : Array (Nat × Operand)} {av : AV} {g : Bool} (hE : E.Ok c.P) (ho : c.Ok E) (hh : c.objs = h.objs)
    (hl : oBuild E h t ev parts.toList = some (g, av, h')) (hev : ∀ x, AVL c (ev x) [ρ x]) : Good E c h h' (do pure (.value (← Instr.build t (parts.map fun (i, x) => (i, ρ x))))) av := by
  unfold oBuild at hl
  have el : (parts.map fun (x : Nat × Operand) => (x.1, ρ x.2)).toList = parts.toList.map fun (x : Nat × Operand) => (x.1, ρ x.2) := by simp
  have fin : ∀ {τ : Ty} {x : Den τ} {h'' : Hp} {cells : Array Value}, τ.isAgg = true → (c.at h'').Ok E → c.Evol (c.at h'') → h.Agr h'' → Program.built c.P t (parts.toList.map fun (x : Nat × Operand) => (x.1, ρ x.2)) = some cells →
      RepC c.w (c.at h'').okb τ x cells.toList → Good E c h h'' (do pure (.value (← Instr.build t (parts.map fun (i, x) => (i, ρ x))))) (.v τ x) := by
    intro τ x h'' cells ha h1 h2 h3 h4 h5
    refine Good.of_val (run_build c.w t _ cells (by rw [← h4]; congr 1)) ⟨c.at h'', rfl, rfl, h1, h2, h3, AVL_v ?_⟩
    unfold VRep
    rw [if_pos ha]
    exact ⟨cells.toList, rfl, h5⟩
  split at hl
  · rename_i a b nb hty
    have hc := (hE.ty t _ nb hty).1
    split at hl
    · rename_i ps hps
      split at hl
      · rename_i av' hbo
        simp only [Option.some.injEq, Prod.mk.injEq] at hl
        obtain ⟨_, rfl, rfl⟩ := hl
        unfold buildO at hbo
        split at hbo
        · rename_i bt hbt
          split at hbo
          · obtain ⟨at', ha, he⟩ := Option.map_eq_some_iff.1 hbo
            subst he
            obtain ⟨z, places, k1, k2, k3⟩ := built_struct hc
            obtain ⟨s1, s2⟩ := stParts_ok hps
            obtain ⟨cells, b4, b5⟩ := buildT_ok (c := c) (place := (places.toArray[·]?)) (qs := parts.toList.map fun (x : Nat × Operand) => (x.1, ρ x.2)) (cells := z.cells) hbt (zeroBT_ok k1) (by simp [s1]) (fun i q p hq hp => by
              simp only [List.getElem?_map, Option.map_eq_some_iff] at hq
              obtain ⟨q0, hq0, rfl⟩ := hq
              obtain ⟨e1, o, e2⟩ := s2 i q0 p hq0 hp
              refine ⟨by rw [e1]; exact hev q0.2, o, fld_pOff0 e2, ?_⟩
              simpa using k2 _ _ _ _ e2)
            refine Good.of_val (run_build c.w t _ cells (by rw [← k3] at b4; rw [← b4]; congr 1)) ⟨c, rfl, hh, ho, Cx.Evol.refl c, Hp.Agr.refl _, rfl, cells.toList, rfl, toA_ok ha b5⟩
          · cases hbo
        · cases hbo
      simp only [Option.map_eq_some_iff] at hl
      obtain ⟨⟨x, h''⟩, hb, he⟩ := hl
      simp only [Prod.mk.injEq] at he
      obtain ⟨_, rfl, rfl⟩ := he
      obtain ⟨z, places, k1, k2, k3⟩ := built_struct hc
      obtain ⟨s1, s2⟩ := stParts_ok hps
      obtain ⟨b1, b2, b3, cells, b4, b5⟩ := buildP_ok (place := (places.toArray[·]?)) (qs := parts.toList.map fun (x : Nat × Operand) => (x.1, ρ x.2)) (cells := z.cells) ho hh hb (zChk_ok k1) (by simp [s1]) (fun i q p hq hp => by
        simp only [List.getElem?_map, Option.map_eq_some_iff] at hq
        obtain ⟨q0, hq0, rfl⟩ := hq
        obtain ⟨e1, o, e2⟩ := s2 i q0 p hq0 hp
        refine ⟨by rw [e1]; exact hev q0.2, o, fld_pOff0 e2, ?_⟩
        simpa using k2 _ _ _ _ e2)
      exact fin rfl b1 b2 b3 (by rw [k3]; exact b4) b5
    · cases hl
  · rename_i nb hty
    have hc := (hE.ty t _ nb hty).1
    split at hl
    · rename_i hp
      simp only [Option.some.injEq, Prod.mk.injEq] at hl
      obtain ⟨_, rfl, rfl⟩ := hl
      have hcc : c.at h = c := by cases c; subst hh; rfl
      obtain ⟨i, z, hf⟩ := chk_facts hc
      simp only [chk, Bool.and_eq_true] at hc
      have h2 := hc.2
      split at h2
      · rename_i l hl2
        have hl3 : l = [] := by simpa using h2
        subst hl3
        refine fin (cells := z.cells) rfl (by rw [hcc]; exact ho) (by rw [hcc]; exact Cx.Evol.refl c) (Hp.Agr.refl h) ?_ (by rw [hcc]; exact zChk_ok hf.zchk)
        simp [Program.built, hf.info, stOf_eq hl2, hf.zero, hp, Instr.fill]
      · cases h2
    · cases hl
  · rename_i n u nb hty
    have hc := (hE.ty t _ nb hty).1
    split at hl
    · rename_i ps hps
      simp only [Option.map_eq_some_iff] at hl
      obtain ⟨⟨x, h''⟩, hb, he⟩ := hl
      simp only [Prod.mk.injEq] at he
      obtain ⟨_, rfl, rfl⟩ := he
      obtain ⟨z, k1, k3⟩ := built_arr hc
      obtain ⟨s1, s2⟩ := arParts_ok hps
      obtain ⟨b1, b2, b3, cells, b4, b5⟩ := buildP_ok (place := fun i => some (i * u.size, u.size)) (qs := parts.toList.map fun (x : Nat × Operand) => (x.1, ρ x.2)) (cells := z.cells) ho hh hb (zChk_ok k1) (by simp [s1]) (fun i q p hq hp => by
        simp only [List.getElem?_map, Option.map_eq_some_iff] at hq
        obtain ⟨q0, hq0, rfl⟩ := hq
        obtain ⟨e1, e2, e3, e4⟩ := s2 i q0 p hq0 hp
        refine ⟨by rw [e1]; exact hev q0.2, q0.1 * u.size, ?_, by rw [e2]⟩
        rw [e3, e2]
        simp [pOff, e4])
      exact fin rfl b1 b2 b3 (by rw [k3]; exact b4) b5
    · cases hl
  · cases hl
def Ob.isFree : Ob → Bool
  | .free => true
  | _ => false
/-- May a new object have this number? -/
def okNid (h : Hp) (nid : Nat) : Bool := Nat.ble nid h.objs.length && (h.get nid).isFree
theorem okNid_iff {h : Hp} {nid : Nat} (hk : okNid h nid = true) : nid ≤ h.objs.length ∧ h.get nid = .free := by
  simp only [okNid, Bool.and_eq_true] at hk
  refine ⟨Nat.le_of_ble_eq_true hk.1, ?_⟩
  have := hk.2
  cases hx : h.get nid <;> rw [hx] at this <;> first | rfl | cases this
def oAlloc (E : Env) (h : Hp) (nid : Nat) (t : TypeId) : Option (Bool × AV × Hp) :=
  match look E.ty t with
  | some (τ, _) => some (okNid h nid, .ref nid [], h.set nid (.box τ (zeroBT τ)))
  | none => none
def oBox (E : Env) (h : Hp) (nid : Nat) (t : TypeId) (x : AV) : Option (Bool × AV × Hp) :=
  match look E.ty t with
  | some (τ, _) => (match leafB τ x with
    | some b => some (okNid h nid, .ref nid [], h.set nid (.box τ b))
    | none => none)
  | none => none
theorem box_new {E : Env} {c : Cx} {h : Hp} {nid : Nat} (ho : c.Ok E) (hh : c.objs = h.objs) (hn : nid ≤ h.objs.length) (hfree : h.get nid = .free) (τ : Ty) (b : BT) (e : TypeId) (cells : Array Value)
    (hb : BTR c τ b cells.toList) :
    ∃ c' : Cx, c'.w = { c.w with heap := c.w.heap.push (.cells cells e) } ∧ c'.objs = (h.set nid (.box τ b)).objs ∧ c'.Ok E ∧ c.Evol c' ∧ h.Agr (h.set nid (.box τ b)) ∧ AVL c' (.ref nid []) [.pointer (some ⟨c.w.heap.size, 0, none⟩)] := by
  obtain ⟨c', w1, w2, w3, w4, w5⟩ := Cx.new ho nid (by rw [hh]; exact hn) (by rw [hh]; exact hfree) (.box τ b) (.pointer (some ⟨c.w.heap.size, 0, none⟩)) { c.w with heap := c.w.heap.push (.cells cells e) }
    rfl rfl rfl (by simp) (fun k hk => by simp only [Array.getElem?_push]; rw [if_neg (by omega)]) (fun k hk => by simp [blkOf] at hk; subst hk; simp)
    (fun c' hev hw => ⟨c.w.heap.size, e, cells.toList, rfl, by rw [hw]; simp, hb.evol hev⟩) (fun _ _ _ he => by cases he)
  refine ⟨c', w1, by rw [w2, hh]; rfl, w4, w5, Hp.Agr.set h nid _ hn, _, rfl, rfl, ?_⟩
  have : c'.objs.getD nid .free = .box τ b := by rw [w2, getD_setX (by rw [hh]; exact hn), if_pos rfl]
  unfold RefRel
  rw [this]
  exact ⟨c.w.heap.size, 0, τ, w3, by cases τ <;> rfl, rfl⟩
theorem oAlloc_ok {E : Env} {c : Cx} {h h' : Hp} {nid : Nat} {t : TypeId} {av : AV} {g : Bool} (hE : E.Ok c.P) (ho : c.Ok E) (hh : c.objs = h.objs) 
    (hl : oAlloc E h nid t = some (g, av, h')) (hg : g = true) : Good E c h h' (do pure (.value (← Instr.alloc t true (.tuple #[])))) av := by
  unfold oAlloc at hl
  split at hl
  · rename_i τ nb hty
    have hc := (hE.ty t _ nb hty).1
    simp only [Option.some.injEq, Prod.mk.injEq] at hl
    obtain ⟨h1, rfl, rfl⟩ := hl
    obtain ⟨hn, hfree⟩ := okNid_iff (h1.trans hg)
    obtain ⟨i, z, hf⟩ := chk_facts hc
    obtain ⟨c', w1, w2, w3, w4, w5, w6⟩ := box_new ho hh hn hfree τ (zeroBT τ) t z.cells (zeroBT_ok hf.zchk)
    refine Good.of_val (w' := c'.w) ?_ ⟨c', rfl, w2, w3, w4, w5, w6⟩
    rw [w1]
    simp [Instr.alloc, zeroValue, typeInfo, hf.info, hf.zero, newVar, newRow, newObj, Sem.run]
  · cases hl
theorem oBox_ok {E : Env} {c : Cx} {h h' : Hp} {nid : Nat} {t : TypeId} {x av : AV} {g : Bool} {v : Value} (ho : c.Ok E) (hh : c.objs = h.objs)
    (hl : oBox E h nid t x = some (g, av, h')) (hg : g = true) (hx : AVL c x [v]) : Good E c h h' (do pure (.value (← Instr.box t v))) av := by
  unfold oBox at hl
  split at hl
  · rename_i τ nb hty
    split at hl
    · rename_i bt hlf
      simp only [Option.some.injEq, Prod.mk.injEq] at hl
      obtain ⟨h1, rfl, rfl⟩ := hl
      obtain ⟨hn, hfree⟩ := okNid_iff (h1.trans hg)
      obtain ⟨c', w1, w2, w3, w4, w5, w6⟩ := box_new ho hh hn hfree τ bt t v.cells (leafB_ok hlf hx)
      refine Good.of_val (w' := c'.w) ?_ ⟨c', rfl, w2, w3, w4, w5, w6⟩
      rw [w1]
      simp [Instr.box, newVar, newRow, newObj, Sem.run]
    · cases hl
  · cases hl
end Go.Sy
namespace Go.Sy
open Go Go.RowKit

/-- Object o is given up, and a new object k has its block, or a new one. -/
theorem Cx.swap {E : Env} {c : Cx} (h : c.Ok E) (o k : Nat) (hne : o ≠ k) (hm2 : ((c.objs.getD o .free).mut && !(c.objs.getD o .free).isHid) = true) (hk : k ≤ c.objs.length) (hfree : c.objs.getD k .free = .free)
    (ob : Ob) (hmo : ob.mut = true) (u : Value) (w' : World) (hos : w'.os = c.w.os) (htape : w'.tape = c.w.tape) (hout : w'.output = c.w.output) (hsize : c.w.heap.size ≤ w'.heap.size)
    (hold : ∀ b, b < c.w.heap.size → blkOf (c.φ o) ≠ some b → w'.heap[b]? = c.w.heap[b]?)
    (hblk : ∀ b, blkOf u = some b → blkOf (c.φ o) = some b ∨ (c.w.heap.size ≤ b ∧ b < w'.heap.size))
    (hor : ∀ c' : Cx, c.Evol c' → c'.w = w' → ORel c' u ob) :
    ∃ c' : Cx, c'.w = w' ∧ c'.objs = setX (setX c.objs o .dead) k ob ∧ c'.φ k = u ∧ c'.Ok E ∧ c.Evol c' := by
  rw [Bool.and_eq_true] at hm2
  have hm := hm2.1
  have hnh : (c.objs.getD o .free).isHid = false := by simpa using hm2.2
  have hlo : o < c.objs.length := by
    rcases Nat.lt_or_ge o c.objs.length with h1 | h1
    · exact h1
    · rw [List.getD_eq_getElem?_getD, List.getElem?_eq_none h1] at hm; cases hm
  let c' : Cx := { c with objs := setX (setX c.objs o .dead) k ob, φ := fun j => if j = k then u else c.φ j, w := w' }
  have hg : ∀ j, c'.objs.getD j .free = if j = k then ob else if j = o then .dead else c.objs.getD j .free := fun j => by
    show (setX (setX c.objs o .dead) k ob).getD j .free = _
    rw [getD_setX (Nat.le_trans hk len_setX), getD_setX (by omega)]
  have hpk : c'.φ k = u := by show (if k = k then u else _) = u; rw [if_pos rfl]
  have hp : ∀ j, j ≠ k → c'.φ j = c.φ j := fun j hj => by show (if j = k then u else _) = _; rw [if_neg hj]
  have hmutc : ∀ j b, (c'.objs.getD j .free).mut = true → blkOf (c'.φ j) = some b → (j ≠ k ∧ j ≠ o ∧ (c.objs.getD j .free).mut = true ∧ blkOf (c.φ j) = some b) ∨ (j = k ∧ (blkOf (c.φ o) = some b ∨ (c.w.heap.size ≤ b ∧ b < w'.heap.size))) := by
    intro j b hj hb
    by_cases e : j = k
    · subst e; rw [hpk] at hb; exact .inr ⟨rfl, hblk b hb⟩
    · rw [hg, if_neg e] at hj
      by_cases e2 : j = o
      · rw [if_pos e2] at hj; cases hj
      · rw [if_neg e2] at hj; rw [hp j e] at hb; exact .inl ⟨e, e2, hj, hb⟩
  have hev : c.Evol c' := by
    refine ⟨rfl, rfl, rfl, hos, htape, hout, hsize, fun b hb => ⟨hold b hb.1 (hb.2 o hm), ⟨Nat.lt_of_lt_of_le hb.1 hsize, fun j hj hbb => ?_⟩⟩, fun j hj => ?_, fun j => ?_, fun j b hj hb => ?_⟩
    · rcases hmutc j b hj hbb with ⟨_, _, h1, h2⟩ | ⟨_, h1 | ⟨h1, _⟩⟩
      · exact hb.2 j h1 h2
      · exact hb.2 o hm h1
      · have := hb.1; omega
    · by_cases e : j = k
      · subst e; rw [hfree] at hj; cases hj
      · exact hp j e
    · rw [hg]
      by_cases e : j = k
      · subst e; rw [hfree]; trivial
      · rw [if_neg e]
        by_cases e2 : j = o
        · subst e2; rw [if_pos rfl]; cases hx : c.objs.getD j .free <;> simp_all [Ob.leads, Ob.mut, Ob.isHid]
        · rw [if_neg e2]; exact Ob.leads_refl _
    · have hmj := Ob.hid_mut hj
      have e2 : j ≠ o := fun e => by subst e; rw [hnh] at hj; cases hj
      exact hold b (h.high j b hmj hb).2 (fun hbo => by
        have := h.inj j o e2 hmj hm (hb.trans hbo.symm)
        rw [hb] at this; cases this)
  refine ⟨c', rfl, rfl, hpk, ⟨Nat.le_trans h.base hsize, h.low, fun j => ?_, fun j j' hjj hj hj' hbb => ?_, fun j b hj hb => ?_, fun j e t l hj b hb => ?_, fun g x hgx => ?_⟩, hev⟩
  · rw [hg]
    by_cases e : j = k
    · subst e; rw [if_pos rfl, hpk]; exact hor c' hev rfl
    · rw [if_neg e, hp j e]
      by_cases e2 : j = o
      · rw [if_pos e2]; trivial
      · rw [if_neg e2]
        have hmm : (c.objs.getD j .free).mut = true → ∀ b, blkOf (c.φ j) = some b → c'.w.heap[b]? = c.w.heap[b]? := fun hmj b hb =>
          hold b (h.high j b hmj hb).2 (fun hbo => by
            have := h.inj j o e2 hmj hm (hb.trans hbo.symm)
            rw [hb] at this; cases this)
        have ho := h.objs j
        cases hob : c.objs.getD j .free with
        | free => trivial
        | dead => trivial
        | hidB _ => trivial
        | hidR _ _ _ => trivial
        | hid0 => trivial
        | box t bt => rw [hob] at ho hmm; exact ORel.evol hev (hmm rfl) ho
        | row e' t l own =>
          rw [hob] at ho hmm
          cases own with
          | true => exact ORel.evol hev (hmm rfl) ho
          | false => exact ORel.evol hev (fun b hb => (hev.okr b (h.froz j e' t l hob b hb).2).1) ho
  · cases hb1 : blkOf (c'.φ j) with
    | none => rfl
    | some b =>
      have hb2 : blkOf (c'.φ j') = some b := by rw [← hbb, hb1]
      exfalso
      rcases hmutc j b hj hb1 with ⟨a1, a2, a3, a4⟩ | ⟨a1, a2⟩ <;> rcases hmutc j' b hj' hb2 with ⟨b1, b2, b3, b4⟩ | ⟨b1, b2⟩
      · have := h.inj j j' hjj a3 b3 (a4.trans b4.symm); rw [a4] at this; cases this
      · rcases b2 with b2 | ⟨b2, _⟩
        · have := h.inj j o a2 a3 hm (a4.trans b2.symm); rw [a4] at this; cases this
        · have := (h.high j b a3 a4).2; omega
      · rcases a2 with a2 | ⟨a2, _⟩
        · have := h.inj j' o b2 b3 hm (b4.trans a2.symm); rw [b4] at this; cases this
        · have := (h.high j' b b3 b4).2; omega
      · exact hjj (a1.trans b1.symm)
  · rcases hmutc j b hj hb with ⟨_, _, a3, a4⟩ | ⟨_, a2 | ⟨a2, a3⟩⟩
    · exact ⟨(h.high j b a3 a4).1, Nat.lt_of_lt_of_le (h.high j b a3 a4).2 hsize⟩
    · exact ⟨(h.high o b hm a2).1, Nat.lt_of_lt_of_le (h.high o b hm a2).2 hsize⟩
    · exact ⟨Nat.le_trans h.base a2, a3⟩
  · rw [hg] at hj
    by_cases e : j = k
    · rw [if_pos e] at hj; subst hj; cases hmo
    · rw [if_neg e] at hj
      by_cases e2 : j = o
      · rw [if_pos e2] at hj; cases hj
      · rw [if_neg e2] at hj; rw [hp j e] at hb; exact (hev.okb b (h.froz j _ t l hj b hb)).2
  · obtain ⟨ds, h1, h2, h3⟩ := h.glob g x hgx
    exact ⟨ds, h1.mono (hev.okb g h3).1, h2.mono hev.okb, (hev.okb g h3).2⟩

/-- What a slice leads to, as one list of cells. -/
theorem slice_news {w : World} {ok : Nat → Prop} {u : Ty} {b : Nat} : ∀ {l : List (Den u)} {o : Nat}, (∀ i x, l[i]? = some x → ∃ ds, Cells w b (o + i * u.size) ds ∧ RepC w ok u x ds) →
    ∃ news, Cells w b o news ∧ RepC w ok (.arr l.length u) l news := by
  intro l
  induction l with
  | nil => intro o h; exact ⟨[], fun i v hi => by simp at hi, rfl, by simp, fun i x hx => by simp at hx⟩
  | cons x r ih =>
    intro o h
    obtain ⟨ds, h1, h2⟩ := h 0 x rfl
    obtain ⟨news, h3, h4⟩ := ih (o := o + u.size) (fun i y hy => by
      obtain ⟨ds, k1, k2⟩ := h (i + 1) y (by simpa using hy)
      exact ⟨ds, by rw [Nat.add_mul, Nat.one_mul] at k1; rw [show o + u.size + i * u.size = o + (i * u.size + u.size) by omega]; exact k1, k2⟩)
    have hl := h2.length
    refine ⟨ds ++ news, fun i v hi => ?_, rfl, ?_, fun i y hy => ?_⟩
    · rcases Nat.lt_or_ge i ds.length with h5 | h5
      · rw [List.getElem?_append_left h5] at hi
        have := h1 i v hi
        simpa using this
      · rw [List.getElem?_append_right h5] at hi
        have := h3 _ v hi
        rw [show o + u.size + (i - ds.length) = o + i by omega] at this
        exact this
    · rw [List.length_append, hl, h4.2.1, List.length_cons, Nat.add_mul, Nat.one_mul, Nat.add_comm]
    · cases i with
      | zero =>
        simp at hy; subst hy
        rw [Nat.zero_mul, List.drop_zero, List.take_append_of_le_length (by omega), List.take_of_length_le (by omega)]
        exact h2
      | succ i =>
        have := h4.2.2 i y (by simpa using hy)
        rw [Nat.add_mul, Nat.one_mul, Nat.add_comm, ← hl, List.drop_length_add_append]
        rw [hl]; exact this
theorem arr_append {w : World} {ok : Nat → Prop} {u : Ty} {l1 l2 : List (Den u)} {xs ys : List Value} (h1 : RepC w ok (.arr l1.length u) l1 xs) (h2 : RepC w ok (.arr l2.length u) l2 ys) :
    RepC w ok (.arr (l1 ++ l2).length u) (l1 ++ l2) (xs ++ ys) := by
  obtain ⟨_, a1, a2⟩ := h1
  obtain ⟨_, b1, b2⟩ := h2
  refine ⟨rfl, by rw [List.length_append, List.length_append, a1, b1, Nat.add_mul], fun i x hx => ?_⟩
  rcases Nat.lt_or_ge i l1.length with h | h
  · rw [List.getElem?_append_left h] at hx
    have hle : (i + 1) * u.size ≤ l1.length * u.size := Nat.mul_le_mul_right _ h
    rw [Nat.add_mul, Nat.one_mul] at hle
    rw [dt_append_left (by omega)]
    exact a2 i x hx
  · rw [List.getElem?_append_right h] at hx
    have := b2 _ x hx
    obtain ⟨d, rfl⟩ := Nat.exists_eq_add_of_le h
    rw [Nat.add_mul, ← a1, dt_append_right]
    rw [show l1.length + d - l1.length = d by omega] at this
    exact this
/-- The elements of a slice that may be read. -/
def rdT (h : Hp) (u : Ty) : AV → Option (List (Den u))
  | .v (.sl t) l => if hb : Ty.beq t u = true then some (castD (a := .sl t) (b := .sl u) hb l) else none
  | .bv t l => if hb : Ty.beq t u = true then some (castD (a := .sl t) (b := .sl u) hb l) else none
  | .nils => some []
  | .rsl o => match h.get o with
    | .row _ t l _ => if hb : Ty.beq t u = true then some (castD (a := .sl t) (b := .sl u) hb l) else none
    | _ => none
  | _ => none
theorem rdT_ok {E : Env} {c : Cx} {h : Hp} {u : Ty} {x : AV} {l : List (Den u)} {v : Value} (ho : c.Ok E) (hh : c.objs = h.objs) (hr : rdT h u x = some l) (hx : AVL c x [v]) :
    ∃ a cap, v = .slice a l.length cap ∧ l.length ≤ cap ∧ (l = [] ∨ ∃ b o, a = some ⟨b, o, none⟩ ∧ b < c.w.heap.size ∧ ∀ i x, l[i]? = some x → ∃ ds, Cells c.w b (o + i * u.size) ds ∧ RepC c.w c.okb u x ds) := by
  cases x with
  | v t y =>
    cases t with
    | sl t =>
      simp only [rdT] at hr
      split at hr
      · rename_i hb
        have hb' := Ty.beq_eq hb
        subst hb'
        cases hr
        obtain ⟨v', hv, a, cap, hv2, hcap, h1⟩ := hx
        cases hv; cases hv2
        refine ⟨a, cap, rfl, hcap, ?_⟩
        rcases h1 with h1 | ⟨b, o, rfl, hk, h1⟩
        · exact .inl h1
        · exact .inr ⟨b, o, rfl, hk.2.1, h1⟩
      · cases hr
    | _ => simp [rdT] at hr
  | bv t y =>
    simp only [rdT] at hr
    split at hr
    · rename_i hb
      have hb' := Ty.beq_eq hb
      subst hb'
      cases hr
      obtain ⟨a, cap, hv2, hcap, h1⟩ := hx
      cases hv2
      refine ⟨a, cap, rfl, hcap, ?_⟩
      rcases h1 with h1 | ⟨b, o, rfl, hk, h1⟩
      · exact .inl h1
      · exact .inr ⟨b, o, rfl, hk.1, h1⟩
    · cases hr
  | nils =>
    simp only [rdT, Option.some.injEq] at hr
    subst hr
    have hx : [v] = [Value.slice none 0 0] := hx
    cases hx
    exact ⟨none, 0, rfl, Nat.le_refl _, .inl rfl⟩
  | rsl o =>
    simp only [rdT] at hr
    split at hr
    · rename_i e t y own hgo
      split at hr
      · rename_i hb
        have hb' := Ty.beq_eq hb
        subst hb'
        cases hr
        obtain ⟨v', hv, _, hrr⟩ := hx
        cases hv
        have hgo' : c.objs.getD o .free = .row e t y own := by rw [hh]; exact hgo
        unfold RslRel at hrr
        rw [hgo'] at hrr
        subst hrr
        have hob := ho.objs o
        rw [hgo'] at hob
        rcases hob with ⟨a, h1, h2⟩ | ⟨b, cap, xs, h1, h2, h3, h4⟩
        · subst h2; exact ⟨a, 0, h1, Nat.le_refl _, .inl rfl⟩
        · have hcap : y.length ≤ cap := by
            rcases h3.2 with ⟨h5, _⟩ | ⟨g, cap', cur, h5, _, _, h6, _⟩
            · rw [h1] at h5; cases h5
            · rw [h1] at h5; cases h5; exact h6
          refine ⟨_, cap, h1, hcap, .inr ⟨b, 0, rfl, (h3.lt b (by rw [h1]; rfl)).2, fun i x hx => ?_⟩⟩
          refine ⟨(xs.drop (i * t.size)).take t.size, fun j v hj => ?_, h4 i x hx⟩
          rw [List.getElem?_take] at hj
          split at hj
          · rw [List.getElem?_drop] at hj
            have := h3.cells (g := b) (by rw [h1]; rfl) _ _ hj
            simpa [Addr.add_lit] using this
          · cases hj
      · cases hr
    · cases hr
  | _ => simp [rdT] at hr
end Go.Sy
namespace Go.Sy
open Go Go.RowKit

/-- A new row of the call's own, in new memory (or none). -/
theorem row_new {E : Env} {c : Cx} {h : Hp} {nid : Nat} (ho : c.Ok E) (hh : c.objs = h.objs) (hn : nid ≤ h.objs.length) (hfree : h.get nid = .free) (e : TypeId) (u : Ty) (l : List (Den u)) (v : Value) (w' : World)
    (hos : w'.os = c.w.os) (htape : w'.tape = c.w.tape) (hout : w'.output = c.w.output) (hsize : c.w.heap.size ≤ w'.heap.size) (hold : ∀ b, b < c.w.heap.size → w'.heap[b]? = c.w.heap[b]?)
    (hblk : ∀ b, blkOf v = some b → c.w.heap.size ≤ b ∧ b < w'.heap.size) (h1c : v.oneCell' = true)
    (hor : ∀ c' : Cx, c.Evol c' → c'.w = w' → ORel c' v (.row e u l true)) :
    ∃ c' : Cx, c'.w = w' ∧ c'.objs = (h.set nid (.row e u l true)).objs ∧ c'.Ok E ∧ c.Evol c' ∧ h.Agr (h.set nid (.row e u l true)) ∧ AVL c' (.rsl nid) [v] := by
  obtain ⟨c', w1, w2, w3, w4, w5⟩ := Cx.new ho nid (by rw [hh]; exact hn) (by rw [hh]; exact hfree) (.row e u l true) v w' hos htape hout hsize hold hblk hor (fun _ _ _ he => by cases he)
  refine ⟨c', w1, by rw [w2, hh]; rfl, w4, w5, Hp.Agr.set h nid _ hn, v, rfl, h1c, ?_⟩
  have : c'.objs.getD nid .free = .row e u l true := by rw [w2, getD_setX (by rw [hh]; exact hn), if_pos rfl]
  unfold RslRel
  rw [this]
  exact w3.symm
theorem rep_made {w : World} {ok : Nat → Prop} {u : Ty} {zs : List Value} (hz : zChk u zs = true) (hl : zs.length = u.size) (n : Nat) :
    RepC w ok (.arr n u) (List.replicate n (dflt u)) ((List.range (n * u.size)).map fun i => zs.toArray[i % zs.toArray.size]!) := by
  refine ⟨by simp, by simp, fun i x hx => ?_⟩
  rw [List.getElem?_replicate] at hx
  split at hx
  · rename_i hi
    cases hx
    have e : ((((List.range (n * u.size)).map fun i => zs.toArray[i % zs.toArray.size]!).drop (i * u.size)).take u.size) = zs := by
      have hle : (i + 1) * u.size ≤ n * u.size := Nat.mul_le_mul_right _ hi
      rw [Nat.add_mul, Nat.one_mul] at hle
      apply List.ext_getElem?
      intro k
      rw [List.getElem?_take]
      split
      · rename_i hk
        rw [List.getElem?_drop, List.getElem?_map, List.getElem?_range (by omega)]
        simp only [Option.map_some, List.size_toArray, hl]
        rw [Nat.mul_comm, Nat.mul_add_mod, Nat.mod_eq_of_lt hk]
        have : k < zs.length := by omega
        simp [this]
      · rename_i hk
        rw [List.getElem?_eq_none (by omega)]
    rw [e]
    exact zChk_ok hz
  · cases hx
def oMake (E : Env) (h : Hp) (nid : Nat) (t : TypeId) (l c : AV) : Option (Bool × AV × Hp) :=
  match look E.ty t, look E.sl t, l, c with
  | some (.sl u, _), some (e, n), .v (.int k) x, .v (.int j) y =>
    some (decide (0 ≤ toI k x) && decide (toI k x ≤ toI j y) && room ((toI j y).toNat * n) && decide (toI j y ≤ 140737488355328) && okNid h nid, .rsl nid, h.set nid (.row e u (List.replicate (cnt k x) (dflt u)) true))
  | _, _, _, _ => none
theorem oMake_ok {E : Env} {c : Cx} {h h' : Hp} {nid : Nat} {t : TypeId} {l cp av : AV} {g : Bool} {v w : Value} (hE : E.Ok c.P) (ho : c.Ok E) (hh : c.objs = h.objs)
    (hl : oMake E h nid t l cp = some (g, av, h')) (hg : g = true) (h1 : AVL c l [v]) (h2 : AVL c cp [w]) : Good E c h h' (do pure (.value (← Instr.makeSlice t v w))) av := by
  unfold oMake at hl
  split at hl
  · rename_i u nb e n k x j y hty hsl
    have hc := (hE.ty t _ nb hty).1
    obtain ⟨hu, hby⟩ := hE.sl t e n hsl
    simp only [Option.some.injEq, Prod.mk.injEq] at hl
    obtain ⟨hgg, rfl, rfl⟩ := hl
    rw [hg] at hgg
    simp only [Bool.and_eq_true, decide_eq_true_eq] at hgg
    obtain ⟨⟨⟨⟨g1, g2⟩, g3⟩, g4⟩, g5⟩ := hgg
    have g3 := room_le g3
    obtain ⟨g5, hfree⟩ := okNid_iff g5
    obtain ⟨v', hv, hx⟩ := h1
    cases hv
    have hx := VRep_int hx
    subst hx
    obtain ⟨w', hw, hy⟩ := h2
    cases hw
    have hy := VRep_int hy
    subst hy
    obtain ⟨e', he1, he2⟩ := chk_sl hc
    rw [hu] at he1; cases he1
    obtain ⟨i, z, hf⟩ := chk_facts he2
    have hn : i.bytes = n := by rw [hf.info] at hby; simpa using hby
    have hzl : z.cells.toList.length = u.size := (zChk_ok (w := c.w) (ok := fun _ => True) hf.zchk).length
    have hrun := run_make (P := c.P) c.w t e i z hu hf.info hf.zero k j (toI k x) (toI j y) g1 g2 (by
      rw [hn]
      have : ((toI j y).toNat : Int) = toI j y := Int.toNat_of_nonneg (by omega)
      have h3 : (n : Int) * toI j y = (((toI j y).toNat * n : Nat) : Int) := by push_cast; rw [this, Int.mul_comm]
      rw [h3]; omega) (by omega)
    rw [toI_cnt] at hrun
    have hcc : cnt k x ≤ (toI j y).toNat := by rw [← toI_cnt]; omega
    refine Good.of_val hrun ?_
    have hcells : (madeCells z.cells ((toI j y).toNat * i.size)).toList = (List.range ((toI j y).toNat * u.size)).map fun i => z.cells.toList.toArray[i % z.cells.toList.toArray.size]! := by
      simp [madeCells, hf.size]
    have hrep := rep_made (w := c.w) (ok := c.okb) hf.zchk hzl (toI j y).toNat
    rw [← hcells] at hrep
    have hrep2 : ∀ i' x', (List.replicate (cnt k x) (dflt u))[i']? = some x' → RepC c.w c.okb u x' ((((madeCells z.cells ((toI j y).toNat * i.size)).toList.take (cnt k x * u.size)).drop (i' * u.size)).take u.size) := by
      intro i' x' hx'
      have hi' : i' < cnt k x := by have := (List.getElem?_eq_some_iff.1 hx').1; simpa using this
      have h4 := hrep.2.2 i' x' (by
        rw [List.getElem?_replicate] at hx' ⊢
        rw [if_pos (by omega)]; rw [if_pos hi'] at hx'; exact hx')
      have hle : (i' + 1) * u.size ≤ cnt k x * u.size := Nat.mul_le_mul_right _ hi'
      rw [Nat.add_mul, Nat.one_mul] at hle
      have e2 : ((((madeCells z.cells ((toI j y).toNat * i.size)).toList.take (cnt k x * u.size)).drop (i' * u.size)).take u.size) = (((madeCells z.cells ((toI j y).toNat * i.size)).toList.drop (i' * u.size)).take u.size) := by
        apply List.ext_getElem?
        intro q
        simp only [List.getElem?_take, List.getElem?_drop]
        split
        · rw [if_pos (by omega)]
        · rfl
      rw [e2]; exact h4
    obtain ⟨c', w1, w2, w3, w4, w5, w6⟩ := row_new ho hh g5 hfree e u (List.replicate (cnt k x) (dflt u)) (.slice (some ⟨c.w.heap.size, 0, none⟩) (cnt k x) (toI j y).toNat)
      (c.w.alloc (.cells (madeCells z.cells ((toI j y).toNat * i.size)) e)) rfl rfl rfl (by simp) (fun b hb => Below.heap_alloc c.w _ b hb)
      (fun b hb => by
        simp only [blkOf] at hb
        split at hb
        · cases hb
        · cases hb; simp) rfl
      (fun c' hev hw => by
        by_cases hz : (toI j y).toNat = 0
        · refine .inl ⟨some ⟨c.w.heap.size, 0, none⟩, ?_, ?_⟩
          · have : cnt k x = 0 := by omega
            rw [this, hz]
          · have : cnt k x = 0 := by omega
            rw [this]; rfl
        · refine .inr ⟨c.w.heap.size, (toI j y).toNat, (madeCells z.cells ((toI j y).toNat * i.size)).toList.take (cnt k x * u.size), by simp, by omega, ⟨?_, .inr ⟨c.w.heap.size, (toI j y).toNat, madeCells z.cells ((toI j y).toNat * i.size), by simp, Nat.zero_le _, by rw [hw]; exact heap_alloc_new c.w _, by simpa using hcc, by simp only [maxLen]; omega, by rw [size_madeCells, hf.size], by simp⟩⟩, fun i' x' hx' => (hrep2 i' x' hx').mono hev.okb⟩
          have h5 : (madeCells z.cells ((toI j y).toNat * i.size)).toList.length = (toI j y).toNat * u.size := by rw [Array.length_toList, size_madeCells, hf.size]
          have h6 : cnt k x * u.size ≤ (toI j y).toNat * u.size := Nat.mul_le_mul_right _ hcc
          rw [List.length_take, h5, Nat.min_eq_left h6, List.length_replicate])
    exact ⟨c', w1, w2, w3, w4, w5, w6⟩
  · cases hl
def oBuildSlice (E : Env) (h : Hp) (nid : Nat) (t : TypeId) (len : Nat) (ev : Operand → AV) (parts : List (Nat × Operand)) : Option (Bool × AV × Hp) :=
  match look E.ty t, look E.sl t with
  | some (.sl u, _), some (e, _) => if Nat.ble (len * u.size) 16777216 && Nat.ble len 16777216 then (match arParts u len ev parts with
    | some ps => (match buildP h (.arr len u) (List.replicate len (dflt u)) ps with
      | some (l, h1) => some (okNid h1 nid, .rsl nid, h1.set nid (.row e u l true))
      | none => none)
    | none => none) else none
  | _, _ => none
theorem oBuildSlice_ok {E : Env} {c : Cx} {h h' : Hp} {nid : Nat} {t : TypeId} {len : Nat} {ev : Operand → AV} {ρ : Operand → Value} {parts : Array (Nat × Operand)} {av : AV} {g : Bool} (hE : E.Ok c.P) (ho : c.Ok E) (hh : c.objs = h.objs)
    (hl : oBuildSlice E h nid t len ev parts.toList = some (g, av, h')) (hg : g = true) (hev : ∀ x, AVL c (ev x) [ρ x]) :
    Good E c h h' (do pure (.value (← Instr.buildSlice t len (parts.map fun (i, x) => (i, ρ x))))) av := by
  unfold oBuildSlice at hl
  split at hl
  · rename_i u nb e n hty hsl
    have hc := (hE.ty t _ nb hty).1
    obtain ⟨hu, hby⟩ := hE.sl t e n hsl
    obtain ⟨e', he1, he2⟩ := chk_sl hc
    rw [hu] at he1; cases he1
    obtain ⟨i, z, hf⟩ := chk_facts he2
    have hzl : z.cells.toList.length = u.size := (zChk_ok (w := c.w) (ok := fun _ => True) hf.zchk).length
    split at hl
    · rename_i hle
      simp only [Bool.and_eq_true] at hle
      have hlen := Nat.le_of_ble_eq_true hle.2
      have hle := Nat.le_of_ble_eq_true hle.1
      split at hl
      · rename_i ps hps
        split at hl
        · rename_i l h1 hb
          simp only [Option.some.injEq, Prod.mk.injEq] at hl
          obtain ⟨hn, rfl, rfl⟩ := hl
          obtain ⟨hn, hfree⟩ := okNid_iff (hn.trans hg)
          obtain ⟨s1, s2⟩ := arParts_ok hps
          have hrep := rep_made (w := c.w) (ok := c.okb) hf.zchk hzl len
          obtain ⟨b1, b2, b3, cells, b4, b5⟩ := buildP_ok (place := fun i => some (i * u.size, u.size)) (qs := parts.toList.map fun (x : Nat × Operand) => (x.1, ρ x.2))
            (cells := ((List.range (len * u.size)).map fun i => z.cells.toList.toArray[i % z.cells.toList.toArray.size]!).toArray) ho hh hb (by simpa using hrep) (by simp [s1]) (fun i q p hq hp => by
            simp only [List.getElem?_map, Option.map_eq_some_iff] at hq
            obtain ⟨q0, hq0, rfl⟩ := hq
            obtain ⟨e1, e2, e3, e4⟩ := s2 i q0 p hq0 hp
            refine ⟨by rw [e1]; exact hev q0.2, q0.1 * u.size, ?_, by rw [e2]⟩
            rw [e3, e2]
            simp [pOff, e4])
          have hll : l.length = len := b5.1
          have hcl : cells.size = len * u.size := by simpa using b5.2.1
          have hrun : (Instr.buildSlice t len (parts.map fun (x : Nat × Operand) => (x.1, ρ x.2))).run c.P c.w = .ok (.slice (some ⟨c.w.heap.size, 0, none⟩) len len) (c.w.alloc (.cells cells e)) := by
            have hgt : ¬ (16777216 < len * u.size) := by omega
            by_cases hz : len * u.size = 0
            · have e0 : ((List.range (len * u.size)).map fun i => z.cells.toList.toArray[i % z.cells.toList.toArray.size]!).toArray = (#[] : Array Value) := by rw [hz]; rfl
              rw [e0] at b4
              have e1 : Array.map (fun _ => (default : Value)) (Array.range 0) = #[] := by apply Array.ext' ; simp
              simp [Instr.buildSlice, run_underlying hu, run_sizeOf he2, hz, newRow, newObj, e1, b4]
              rfl
            · have e0 : ((List.range (len * u.size)).map fun i => z.cells.toList.toArray[i % z.cells.toList.toArray.size]!).toArray = (Array.range (len * u.size)).map (fun x => z.cells[x % z.cells.size]!) := by
                apply Array.ext'; simp
              rw [e0] at b4
              simp [Instr.buildSlice, run_underlying hu, run_sizeOf he2, hz, hgt, zeroValue, typeInfo, hf.info, hf.zero, newRow, newObj, Sem.run, b4]
          refine Good.of_val hrun ?_
          obtain ⟨c', w1, w2, w3, w4, w5, w6⟩ := row_new (c := c.at h1) (h := h1) (nid := nid) b1 rfl hn hfree e u l (.slice (some ⟨c.w.heap.size, 0, none⟩) len len)
            (c.w.alloc (.cells cells e)) rfl rfl rfl (by simp) (fun b hb => Below.heap_alloc c.w _ b hb)
            (fun b hb => by
              simp only [blkOf] at hb
              split at hb
              · cases hb
              · cases hb; simp) rfl
            (fun c' hev hw => by
              by_cases hz : len = 0
              · refine .inl ⟨some ⟨c.w.heap.size, 0, none⟩, by rw [hz], List.eq_nil_of_length_eq_zero (by omega)⟩
              · refine .inr ⟨c.w.heap.size, len, cells.toList, by rw [hll], by omega, ⟨by rw [hll]; simpa using hcl, .inr ⟨c.w.heap.size, len, cells, by rw [hll], Nat.zero_le _, by rw [hw]; exact heap_alloc_new c.w _, by omega, ?_, hcl, ?_⟩⟩, fun i' x' hx' => (b5.2.2 i' x' hx').mono hev.okb⟩
                · simp only [maxLen]; omega
                · rw [hll, List.take_of_length_le (by simp [hcl])])
          exact ⟨c', w1, w2, w3, b2.trans w4, b3.trans w5, w6⟩
        · cases hl
      · cases hl
    · cases hl
  · cases hl
end Go.Sy
namespace Go.Sy
open Go Go.RowKit Go.Lib

/-- What an append leaves. -/
def Appended (c : Cx) (e : TypeId) (u : Ty) (l : List (Den u)) (v : Value) (r : Result Value) : Prop :=
  ∃ v' w', r = .ok v' w' ∧ w'.os = c.w.os ∧ w'.tape = c.w.tape ∧ w'.output = c.w.output ∧ c.w.heap.size ≤ w'.heap.size ∧
    (∀ b, b < c.w.heap.size → blkOf v ≠ some b → w'.heap[b]? = c.w.heap[b]?) ∧ (∀ b, blkOf v' = some b → blkOf v = some b ∨ (c.w.heap.size ≤ b ∧ b < w'.heap.size)) ∧ v'.oneCell' = true ∧
    ∀ c' : Cx, c.Evol c' → c'.w = w' → ORel c' v' (.row e u l true)
theorem ORel.row_len {c : Cx} {e : TypeId} {u : Ty} {l : List (Den u)} {own : Bool} {v : Value} (h : ORel c v (.row e u l own)) : ∃ a cap, v = .slice a l.length cap ∧ l.length ≤ cap := by
  rcases h with ⟨a, rfl, rfl⟩ | ⟨b, cap, xs, rfl, hc, h1, _⟩
  · exact ⟨a, 0, rfl, Nat.le_refl _⟩
  · refine ⟨_, cap, rfl, ?_⟩
    rcases h1.2 with ⟨h3, _⟩ | ⟨g, cap', cur, h3, _, _, h6, _⟩
    · cases h3
    · cases h3; exact h6
theorem Appended.same {c : Cx} {e : TypeId} {u : Ty} {l : List (Den u)} {v : Value} (h : ORel c v (.row e u l true)) : Appended c e u l v (.ok v c.w) := by
  obtain ⟨a, cap, hv, _⟩ := h.row_len
  exact ⟨v, c.w, rfl, rfl, rfl, rfl, Nat.le_refl _, fun _ _ _ => rfl, fun _ hb => .inl hb, by rw [hv]; rfl, fun c' hev hw => ORel.evol hev (fun b _ => by rw [hw]) h⟩
theorem Appended.grown {c : Cx} {e : TypeId} {u : Ty} {l l2 : List (Den u)} {v : Value} {xs news : List Value} {C : Array Value} {cap : Nat}
    (h1 : RepC c.w c.okb (.arr l.length u) l xs) (h2 : RepC c.w c.okb (.arr l2.length u) l2 news) (rest : List Value) (hC : C.toList = xs ++ news ++ rest) (hs : C.size = cap * u.size) (hle : l.length + l2.length ≤ cap) (hm : cap ≤ maxLen) :
    Appended c e u (l ++ l2) v (.ok (.slice (some ⟨c.w.heap.size, 0, none⟩) (l.length + l2.length) cap) (c.w.drew.alloc (.cells C e))) := by
  have happ := arr_append h1 h2
  have hown : (c.w.drew.alloc (.cells C e)).ownsRow 0 e u.size (.slice (some ⟨c.w.heap.size, 0, none⟩) (l.length + l2.length) cap) (l.length + l2.length) (xs ++ news) := by
    have hl : (xs ++ news).length = (l.length + l2.length) * u.size := by rw [happ.2.1, List.length_append]
    refine ⟨hl, .inr ⟨c.w.heap.size, cap, C, rfl, Nat.zero_le _, heap_alloc_new c.w.drew _, hle, hm, hs, ?_⟩⟩
    rw [hC, ← hl]; exact List.take_left
  refine ⟨_, _, rfl, rfl, rfl, rfl, by simp, fun b hb _ => Below.heap_alloc c.w.drew _ _ hb, fun b hb => .inr ?_, rfl, fun c' hev hw => ?_⟩
  · simp only [blkOf] at hb
    split at hb
    · cases hb
    · cases hb; simp
  · by_cases hz : cap = 0
    · subst hz
      have h0 : l.length + l2.length = 0 := by omega
      exact .inl ⟨some ⟨c.w.heap.size, 0, none⟩, by rw [h0], List.eq_nil_of_length_eq_zero (by rw [List.length_append]; exact h0)⟩
    · exact .inr ⟨_, cap, xs ++ news, by rw [List.length_append], by omega, by rw [hw, List.length_append]; exact hown, fun i x hx => (happ.2.2 i x hx).mono hev.okb⟩
theorem Appended.room {c : Cx} {e : TypeId} {u : Ty} {l l2 : List (Den u)} {xs news : List Value} {g cap : Nat} {cur : Array Value}
    (h1 : RepC c.w c.okb (.arr l.length u) l xs) (h2 : RepC c.w c.okb (.arr l2.length u) l2 news) (hc : 0 < cap) (hg : c.w.heap[g]? = some (.cells cur e (0, 0))) (hs : cur.size = cap * u.size) (hle : l.length + l2.length ≤ cap) (hm : cap ≤ maxLen)
    (ht : cur.toList.take (l.length * u.size) = xs) :
    Appended c e u (l ++ l2) (.slice (some ⟨g, 0, none⟩) l.length cap) (.ok (.slice (some ⟨g, 0, none⟩) (l.length + l2.length) cap)
      (c.w.setRow g (cur.toList.take (l.length * u.size) ++ news ++ cur.toList.drop (l.length * u.size + news.length)).toArray)) := by
  have happ := arr_append h1 h2
  have hl : (xs ++ news).length = (l.length + l2.length) * u.size := by rw [happ.2.1, List.length_append]
  have hle2 : (l.length + l2.length) * u.size ≤ cap * u.size := Nat.mul_le_mul_right _ hle
  have hle3 := hle2
  rw [Nat.add_mul] at hle3
  have hnl : news.length = l2.length * u.size := h2.2.1
  have hcl : cur.toList.length = cap * u.size := by simpa using hs
  have hown : (c.w.setRow g (cur.toList.take (l.length * u.size) ++ news ++ cur.toList.drop (l.length * u.size + news.length)).toArray).ownsRow 0 e u.size (.slice (some ⟨g, 0, none⟩) (l.length + l2.length) cap) (l.length + l2.length) (xs ++ news) := by
    refine ⟨hl, .inr ⟨g, cap, _, rfl, Nat.zero_le _, setRow_heap c.w g cur _ e _ hg, hle, hm, ?_, ?_⟩⟩
    · rw [List.size_toArray, List.length_append, List.length_append, List.length_take, List.length_drop]; omega
    · rw [ht, ← hl]; exact List.take_left
  refine ⟨_, _, rfl, rfl, rfl, rfl, by simp, fun b hb hne => setRow_get _ _ _ _ (fun e => hne (by rw [e]; simp [blkOf]; omega)), fun b hb => .inl ?_, rfl, fun c' hev hw => ?_⟩
  · simpa [blkOf] using hb
  · exact .inr ⟨_, cap, xs ++ news, by rw [List.length_append], hc, by rw [hw, List.length_append]; exact hown, fun i x hx => (happ.2.2 i x hx).mono hev.okb⟩
theorem run_append_zero {P : Program} {t t2 ty e : TypeId} {i : TypeInfo} (ht : P.underlying t = some (.slice e)) (hi : P.info? e = some i) (h2 : (∃ e2, P.underlying t2 = some (.slice e2)) ∨ P.underlying t2 = some .string)
    (w : World) (a : Option Addr) (n cap : Nat) (hn : n ≤ cap) (x : Value) (hx : (∃ b c, x = .slice b 0 c) ∨ x = .string ByteArray.empty) :
    (Builtin.append_ #[t, t2] ty #[.slice a n cap, x]).run P w = .ok (.slice a n cap) w := by
  rcases h2 with ⟨e2, hd1⟩ | hd1 <;> rcases hx with ⟨b, c, rfl⟩ | rfl
  all_goals
    first
      | (cases a <;> cases b <;> simp [Builtin.append_, run_underlying ht, run_underlying hd1, sizeOf, typeInfo, hi, Builtin.lenOf, Builtin.firstCells, hn, storeCells, loadCells, loadCellsFrom]; done)
      | (cases a <;> simp [Builtin.append_, run_underlying ht, run_underlying hd1, sizeOf, typeInfo, hi, Builtin.lenOf, Builtin.firstCells, hn, storeCells])
theorem zeroCells_size {z : Array Value} {n size : Nat} (h : z.size = size) : (Builtin.zeroCells z n).size = n * size := by rw [size_zeroCells, h]
theorem grow_size {size n m cap : Nat} {xs news : List Value} {z : Array Value} (h1 : xs.length = n * size) (h2 : news.length = m * size) (hz : z.size = size) (hle : n + m ≤ cap) :
    (xs.toArray ++ news.toArray ++ Builtin.zeroCells z (cap - (n + m))).size = cap * size := by
  rw [Array.size_append, Array.size_append, List.size_toArray, List.size_toArray, zeroCells_size hz, h1, h2, ← Nat.add_mul, ← Nat.add_mul]
  congr 1
  omega
theorem arr_nil {w : World} {ok : Nat → Prop} {u : Ty} : RepC w ok (.arr ([] : List (Den u)).length u) [] [] := ⟨rfl, by simp, fun i x hx => by simp at hx⟩
theorem append_slice {c : Cx} {t ty e : TypeId} {i : TypeInfo} {z : Value} {u : Ty} (ht : c.P.underlying t = some (.slice e)) (hf : TyF c.P u e i z) {l l2 : List (Den u)} {v : Value} (hr : ORel c v (.row e u l true))
    {a : Option Addr} {cap : Nat} (hs : l2 = [] ∨ ∃ b o, a = some ⟨b, o, none⟩ ∧ ∀ i x, l2[i]? = some x → ∃ ds, Cells c.w b (o + i * u.size) ds ∧ RepC c.w c.okb u x ds)
    (hroom : (l.length + l2.length) * i.bytes ≤ 140737488355328) (hsmall : l.length + l2.length ≤ 140737488355328) :
    Appended c e u (l ++ l2) v ((Builtin.append_ #[t, t] ty #[v, .slice a l2.length cap]).run c.P c.w) := by
  have hzs : z.cells.size = u.size := by simpa using (zChk_ok (w := c.w) (ok := fun _ => True) hf.zchk).length
  by_cases hl2 : l2 = []
  · subst hl2
    obtain ⟨a', cap', hv, hle⟩ := hr.row_len
    have hrun := run_append_zero (P := c.P) (ty := ty) ht hf.info (.inl ⟨e, ht⟩) c.w a' l.length cap' hle (.slice a 0 cap) (.inl ⟨a, cap, rfl⟩)
    rw [← hv] at hrun
    show Appended c e u (l ++ []) v ((Builtin.append_ #[t, t] ty #[v, .slice a 0 cap]).run c.P c.w)
    rw [hrun, List.append_nil]
    exact Appended.same hr
  · rcases hs with hs | ⟨b, o, rfl, hs⟩
    · exact absurd hs hl2
    · obtain ⟨news, hn1, hn2⟩ := slice_news hs
      have hnl : news.length = l2.length * u.size := hn2.2.1
      have hnl' : news.length = l2.length * i.size := by rw [hf.size]; exact hnl
      have hm : 0 < l2.length := by cases l2 <;> simp at hl2 ⊢
      have hcells : ∀ j u', news[j]? = some u' → c.w.cell? ((⟨b, o, none⟩ : Addr).add j) = some u' := fun j u' hj => by rw [addr_add]; exact hn1 j u' hj
      rcases hr with ⟨a', rfl, rfl⟩ | ⟨b', cap', xs, rfl, hc, h1, h2⟩
      · have hge := grownCap_ge c.w l2.length 0 e
        have hcm := grownCap_le_maxLen c.w l2.length 0 e (by simp only [maxLen]; simp at hsmall; omega)
        have hsz := grow_size (xs := []) (n := 0) (size := u.size) (by simp) hnl hzs (by simpa using hge)
        simp only [Nat.zero_add, List.length_nil] at hroom hsmall hsz
        have fin := Appended.grown (c := c) (e := e) (v := .slice a' 0 0) (cap := grownCap c.w l2.length 0 e) (arr_nil (u := u)) hn2 (Builtin.zeroCells z.cells (grownCap c.w l2.length 0 e - l2.length)).toList
          (C := ([] : List Value).toArray ++ news.toArray ++ Builtin.zeroCells z.cells (grownCap c.w l2.length 0 e - l2.length)) (by simp) hsz (by simpa using hge) hcm
        cases a' with
        | none =>
          have hrun := run_append_nil (P := c.P) c.w t ty e i z ht hf.info hf.zero ⟨b, o, none⟩ l2.length cap news hnl' hcells hm (by omega) (by omega)
          show Appended c e u ([] ++ l2) (.slice none 0 0) ((Builtin.append_ #[t, t] ty #[.slice none 0 0, .slice (some ⟨b, o, none⟩) l2.length cap]).run c.P c.w)
          rw [hrun]
          simpa using fin
        | some a' =>
          have hrun := run_append_grow (P := c.P) c.w t ty e i z ht hf.info hf.zero a' 0 0 [] (by simp) (fun j v hj => by simp at hj) ⟨b, o, none⟩ l2.length cap news hnl' hcells (by omega) (by simp; omega)
            (growslice_fits (by omega) (by simpa using hroom))
          show Appended c e u ([] ++ l2) (.slice (some a') 0 0) ((Builtin.append_ #[t, t] ty #[.slice (some a') 0 0, .slice (some ⟨b, o, none⟩) l2.length cap]).run c.P c.w)
          rw [hrun]
          simpa using fin
      · rcases h1.2 with ⟨h3, _⟩ | ⟨g, cap'', cur, h3, h4, h5, h6, h7, h8, h9⟩
        · cases h3
        · cases h3
          have hrow : RepC c.w c.okb (.arr l.length u) l xs := ⟨rfl, h1.1, h2⟩
          by_cases hrm : l.length + l2.length ≤ cap'
          · have hle2 : (l.length + l2.length) * u.size ≤ cap' * u.size := Nat.mul_le_mul_right _ hrm
            rw [Nat.add_mul] at hle2
            have hrun := run_append_room (P := c.P) c.w t ty e i ht hf.info b' l.length cap' cur h5 ⟨b, o, none⟩ l2.length cap news hnl' hcells hn2.cells1 hrm (by rw [hf.size]; omega)
            rw [hf.size] at hrun
            rw [hrun]
            exact Appended.room hrow hn2 hc h5 h8 hrm h7 h9
          · have hrun := run_append_grow (P := c.P) c.w t ty e i z ht hf.info hf.zero ⟨b', 0, none⟩ l.length cap' xs (by rw [hf.size]; exact h1.1) (fun j v hj => h1.cells (g := b') rfl j v hj) ⟨b, o, none⟩ l2.length cap news hnl' hcells (by omega) (by omega)
              (growslice_fits (by omega) hroom)
            rw [hrun]
            have hge := grownCap_ge c.w (l.length + l2.length) cap' e
            exact Appended.grown hrow hn2 (Builtin.zeroCells z.cells (grownCap c.w (l.length + l2.length) cap' e - (l.length + l2.length))).toList (by simp) (grow_size h1.1 hnl hzs hge) hge
              (grownCap_le_maxLen _ _ _ _ (by simp only [maxLen]; omega))
/-- A string's bytes. -/
theorem strCells_rep {w : World} {ok : Nat → Prop} (l : List (BitVec 8)) : RepC w ok (.arr l.length (.int .u8)) l (strCells (bstr l)) := by
  have e : strCells (bstr l) = l.map fun x => Value.int .u8 (x.toNat : Int) := by simp [strCells, bstr, Function.comp_def]
  refine ⟨rfl, by rw [e]; simp [Ty.size], fun i x hx => ?_⟩
  rw [e]
  simp only [Ty.size, Nat.mul_one]
  have hi := (List.getElem?_eq_some_iff.1 hx).1
  rw [List.drop_eq_getElem_cons (by simpa using hi)]
  have hx2 := (List.getElem?_eq_some_iff.1 hx).2
  simp [RepC, toI, hx2]
theorem append_string {c : Cx} {t t2 ty e : TypeId} {i : TypeInfo} {z : Value} (ht : c.P.underlying t = some (.slice e)) (ht2 : c.P.underlying t2 = some .string) (hf : TyF c.P (.int .u8) e i z) {l : List (Den (.int .u8))} {v : Value} (hr : ORel c v (.row e (.int .u8) l true))
    (l2 : List (BitVec 8)) (hroom : (l.length + l2.length) * i.bytes ≤ 140737488355328) (hsmall : l.length + l2.length ≤ 140737488355328) :
    Appended c e (.int .u8) (l ++ l2) v ((Builtin.append_ #[t, t2] ty #[v, .string (bstr l2)]).run c.P c.w) := by
  have hzs : z.cells.size = 1 := by simpa [Ty.size] using (zChk_ok (w := c.w) (ok := fun _ => True) hf.zchk).length
  have hsz := bstr_size l2
  have hn2 := strCells_rep (w := c.w) (ok := c.okb) l2
  have hnl : (strCells (bstr l2)).length = l2.length * 1 := hn2.2.1
  by_cases hl2 : l2 = []
  · subst hl2
    obtain ⟨a', cap', hv, hle⟩ := hr.row_len
    have hrun := run_append_zero (P := c.P) (ty := ty) ht hf.info (.inr ht2) c.w a' l.length cap' hle (.string ByteArray.empty) (.inr rfl)
    rw [← hv] at hrun
    show Appended c e (.int .u8) (l ++ []) v ((Builtin.append_ #[t, t2] ty #[v, .string (bstr [])]).run c.P c.w)
    rw [show bstr [] = ByteArray.empty from rfl, hrun, List.append_nil]
    exact Appended.same hr
  · have hm : 0 < l2.length := by cases l2 <;> simp at hl2 ⊢
    rcases hr with ⟨a', rfl, rfl⟩ | ⟨b', cap', xs, rfl, hc, h1, h2⟩
    · have hge := grownCap_ge c.w l2.length 0 e
      have hcm := grownCap_le_maxLen c.w l2.length 0 e (by simp only [maxLen]; simp at hsmall; omega)
      have hgs := grow_size (xs := []) (n := 0) (size := 1) (by simp) hnl hzs (by simpa using hge)
      simp only [Nat.zero_add, List.length_nil] at hroom hsmall hgs
      have fin := Appended.grown (c := c) (e := e) (v := .slice a' 0 0) (cap := grownCap c.w l2.length 0 e) (arr_nil (u := .int .u8)) hn2 (Builtin.zeroCells z.cells (grownCap c.w l2.length 0 e - l2.length)).toList
        (C := ([] : List Value).toArray ++ (strCells (bstr l2)).toArray ++ Builtin.zeroCells z.cells (grownCap c.w l2.length 0 e - l2.length)) (by simp) (by rw [hgs]; rfl) (by simpa using hge) hcm
      cases a' with
      | none =>
        have hrun := run_append_nil_string (P := c.P) c.w t t2 ty e i z ht ht2 hf.info hf.zero (bstr l2) (by omega) (by omega) (by rw [hsz]; omega)
        show Appended c e (.int .u8) ([] ++ l2) (.slice none 0 0) ((Builtin.append_ #[t, t2] ty #[.slice none 0 0, .string (bstr l2)]).run c.P c.w)
        rw [hrun, hsz]
        have e2 : (bstr l2).data.map (fun b => Value.int .u8 b.toNat) = (strCells (bstr l2)).toArray := by apply Array.ext'; simp [strCells]
        rw [e2]
        simpa using fin
      | some a' =>
        have hrun := run_append_grow_string (P := c.P) c.w t t2 ty e i z ht ht2 hf.info hf.zero a' 0 0 [] (by simp) (fun j v hj => by simp at hj) (bstr l2) (by omega) (by omega)
          (growslice_fits (by omega) (by rw [hsz]; simpa using hroom))
        show Appended c e (.int .u8) ([] ++ l2) (.slice (some a') 0 0) ((Builtin.append_ #[t, t2] ty #[.slice (some a') 0 0, .string (bstr l2)]).run c.P c.w)
        rw [hrun, hsz]
        simpa using fin
    · rcases h1.2 with ⟨h3, _⟩ | ⟨g, cap'', cur, h3, h4, h5, h6, h7, h8, h9⟩
      · cases h3
      · cases h3
        have hrow : RepC c.w c.okb (.arr l.length (.int .u8)) l xs := ⟨rfl, h1.1, h2⟩
        simp only [Ty.size, Nat.mul_one] at h8 h9
        by_cases hrm : l.length + l2.length ≤ cap'
        · have hrun := run_append_room_string (P := c.P) c.w t t2 ty e i ht ht2 hf.info hf.size b' l.length cap' cur h5 (bstr l2) (by omega) (by omega)
          rw [hrun, hsz]
          have := Appended.room (cur := cur) hrow hn2 hc h5 (by simpa [Ty.size] using h8) hrm h7 (by simpa [Ty.size] using h9)
          simpa [Ty.size, hnl] using this
        · have hrun := run_append_grow_string (P := c.P) c.w t t2 ty e i z ht ht2 hf.info hf.zero ⟨b', 0, none⟩ l.length cap' xs (by rw [hf.size]; exact h1.1) (fun j v hj => h1.cells (g := b') rfl j v hj) (bstr l2) (by omega) (by omega)
            (growslice_fits (by omega) (by rw [hsz]; exact hroom))
          rw [hrun, hsz]
          have hge := grownCap_ge c.w (l.length + l2.length) cap' e
          exact Appended.grown hrow hn2 (Builtin.zeroCells z.cells (grownCap c.w (l.length + l2.length) cap' e - (l.length + l2.length))).toList (by simp) (by rw [grow_size (size := 1) (by simpa [Ty.size] using h1.1) hnl hzs hge]; rfl) hge
            (grownCap_le_maxLen _ _ _ _ (by simp only [maxLen]; omega))
end Go.Sy
namespace Go.Sy
open Go Go.RowKit Go.Lib

/-- The elements that are appended. -/
def srcL (E : Env) (h : Hp) (u : Ty) (t1 t2 : TypeId) (x : AV) : Option (Bool × List (Den u)) :=
  if Nat.beq t1 t2 then (rdT h u x).map fun l => (true, l)
  else match look E.ty t2, x with
    | some (.str, _), .v .str l => if hb : Ty.beq (.int .u8) u = true then some (false, castD (a := .sl (.int .u8)) (b := .sl u) hb l) else none
    | _, _ => none
def oAppend (E : Env) (h : Hp) (nid : Nat) (t1 t2 : TypeId) (s x : AV) : Option (Bool × AV × Hp) :=
  match look E.ty t1, look E.sl t1 with
  | some (.sl u, _), some (e, n) => if Nat.beq u.size 0 then none else (match srcL E h u t1 t2 x with
    | some (_, l2) => (match s with
      | .nils => some (room (l2.length * n) && room l2.length && okNid h nid, .rsl nid, h.set nid (.row e u l2 true))
      | .rsl o => (match h.get o with
        | .row e' u' l true => if hb : Ty.beq u' u = true then (if Nat.beq e' e && !Nat.beq o nid then
            some (room ((l.length + l2.length) * n) && room (l.length + l2.length) && okNid h nid, .rsl nid, (h.set o .dead).set nid (.row e u (castD (a := .sl u') (b := .sl u) hb l ++ l2) true)) else none) else none
        | _ => none)
      | _ => none)
    | none => none)
  | _, _ => none
theorem get_lt {h : Hp} {o : Nat} (hx : (h.get o).mut = true) : o < h.objs.length := by
  rcases Nat.lt_or_ge o h.objs.length with h1 | h1
  · exact h1
  · unfold Hp.get at hx; rw [List.getD_eq_getElem?_getD, List.getElem?_eq_none h1] at hx; cases hx
theorem oAppend_ok {E : Env} {c : Cx} {h h' : Hp} {nid : Nat} {t1 t2 ty : TypeId} {s x av : AV} {g : Bool} {v w : Value} (hE : E.Ok c.P) (ho : c.Ok E) (hh : c.objs = h.objs)
    (hl : oAppend E h nid t1 t2 s x = some (g, av, h')) (hg : g = true) (h1 : AVL c s [v]) (h2 : AVL c x [w]) : Good E c h h' (do pure (.value (← Builtin.append_ #[t1, t2] ty #[v, w]))) av := by
  unfold oAppend at hl
  split at hl
  · rename_i u nb e n hty hsl
    have hc := (hE.ty t1 _ nb hty).1
    obtain ⟨hu, hby⟩ := hE.sl t1 e n hsl
    obtain ⟨e', he1, he2⟩ := chk_sl hc
    rw [hu] at he1; cases he1
    obtain ⟨i, z, hf⟩ := chk_facts he2
    have hn : i.bytes = n := by rw [hf.info] at hby; simpa using hby
    split at hl
    · cases hl
    · rename_i hz
      have hz : 0 < u.size := by
        rcases Nat.eq_zero_or_pos u.size with e | e
        · exact absurd (by rw [e]; rfl) hz
        · exact e
      split at hl
      · rename_i b l2 hsrc
        have app : ∀ {l : List (Den u)}, ORel c v (.row e u l true) → (l.length + l2.length) * n ≤ 140737488355328 → l.length + l2.length ≤ 140737488355328 →
            Appended c e u (l ++ l2) v ((Builtin.append_ #[t1, t2] ty #[v, w]).run c.P c.w) := by
          intro l hr hb1 hb2
          unfold srcL at hsrc
          split at hsrc
          · rename_i ht
            have ht := Nat.eq_of_beq_eq_true ht
            subst ht
            simp only [Option.map_eq_some_iff] at hsrc
            obtain ⟨l', hl', he⟩ := hsrc
            simp only [Prod.mk.injEq] at he
            obtain ⟨_, rfl⟩ := he
            obtain ⟨a, cap, hw, _, hx⟩ := rdT_ok ho hh hl' h2
            subst hw
            refine append_slice hu hf hr ?_ (by rw [hn]; exact hb1) hb2
            rcases hx with hx | ⟨b, o, hx1, _, hx2⟩
            · exact .inl hx
            · exact .inr ⟨b, o, hx1, hx2⟩
          · split at hsrc
            · rename_i nb2 l' hty2
              split at hsrc
              · rename_i hb
                have hb' := Ty.beq_eq hb
                subst hb'
                simp only [Option.some.injEq, Prod.mk.injEq] at hsrc
                obtain ⟨_, rfl⟩ := hsrc
                obtain ⟨w', hw, hy⟩ := h2
                cases hw
                have hy := VRep_str hy
                subst hy
                exact append_string hu (chk_str (hE.ty t2 _ _ hty2).1) hf hr l' (by rw [hn]; exact hb1) hb2
              · cases hsrc
            · cases hsrc
        split at hl
        · -- onto nil
          simp only [Option.some.injEq, Prod.mk.injEq] at hl
          obtain ⟨hgg, rfl, rfl⟩ := hl
          rw [hg] at hgg
          simp only [Bool.and_eq_true] at hgg
          obtain ⟨⟨g1, g2⟩, g3⟩ := hgg
          obtain ⟨g3, hfree⟩ := okNid_iff g3
          have h1 : [v] = [Value.slice none 0 0] := h1
          cases h1
          obtain ⟨v', w', k1, k2, k3, k4, k5, k6, k7, k8, k9⟩ := app (l := []) (.inl ⟨none, rfl, rfl⟩) (by simpa using room_le g1) (by simpa using room_le g2)
          obtain ⟨c', w1, w2, w3, w4, w5, w6⟩ := row_new ho hh g3 hfree e u l2 v' w' k2 k3 k4 k5 (fun b hb => k6 b hb (by simp [blkOf])) (fun b hb => by
            rcases k7 b hb with h3 | h3
            · cases h3
            · exact h3) k8 k9
          exact Good.of_val k1 ⟨c', w1, w2, w3, w4, w5, w6⟩
        · rename_i o
          split at hl
          · rename_i e' u' l hgo
            split at hl
            · rename_i hb
              have hb' := Ty.beq_eq hb
              subst hb'
              split at hl
              · rename_i hee
                simp only [Bool.and_eq_true, Bool.not_eq_true'] at hee
                have he := Nat.eq_of_beq_eq_true hee.1
                subst he
                have hne : o ≠ nid := fun e => by rw [e, Nat.beq_refl] at hee; simp at hee
                simp only [Option.some.injEq, Prod.mk.injEq] at hl
                obtain ⟨hgg, rfl, rfl⟩ := hl
                rw [hg] at hgg
                simp only [Bool.and_eq_true] at hgg
                obtain ⟨⟨g1, g2⟩, g3⟩ := hgg
                obtain ⟨g3, hfree⟩ := okNid_iff g3
                obtain ⟨v', hv, _, hrr⟩ := h1
                cases hv
                have hgo' : c.objs.getD o .free = .row e' u' l true := by rw [hh]; exact hgo
                unfold RslRel at hrr
                rw [hgo'] at hrr
                subst hrr
                have hob := ho.objs o
                rw [hgo'] at hob
                have hlt : o < h.objs.length := get_lt (by rw [hgo]; rfl)
                obtain ⟨v', w', k1, k2, k3, k4, k5, k6, k7, k8, k9⟩ := app (l := l) hob (room_le g1) (room_le g2)
                obtain ⟨c', w1, w2, w3, w4, w5⟩ := Cx.swap ho o nid hne (by rw [hgo']; rfl) (by rw [hh]; exact g3) (by rw [hh]; exact hfree) (.row e' u' (l ++ l2) true) rfl v' w' k2 k3 k4 k5 k6 k7 k9
                refine Good.of_val k1 ⟨c', w1, by rw [w2, hh]; rfl, w4, w5, (Hp.Agr.set h o _ (by omega)).trans (Hp.Agr.set (h.set o .dead) nid _ (Nat.le_trans g3 len_setX)), v', rfl, k8, ?_⟩
                have : c'.objs.getD nid .free = .row e' u' (l ++ l2) true := by
                  rw [w2, getD_setX (by rw [hh]; exact Nat.le_trans g3 len_setX), if_pos rfl]
                unfold RslRel
                rw [this]
                exact w3.symm
              · cases hl
            · cases hl
          · cases hl
        · cases hl
      · cases hl
  · cases hl
/-- 'copy' into a row of the call's own. -/
def oCopy (E : Env) (h : Hp) (t1 t2 : TypeId) (d x : AV) : Option (Bool × AV × Hp) :=
  match look E.ty t1, d with
  | some (.sl u, _), .rsl o => (match srcL E h u t1 t2 x, h.get o with
    | some (_, l2), .row e u' l true => if hb : Ty.beq u u' = true then
        some (true, .v (.int .i64) ((min l2.length l.length : Nat) : Int), h.set o (.row e u' (castD (a := .sl u) (b := .sl u') hb (l2.take l.length) ++ l.drop l2.length) true)) else none
    | _, _ => none)
  | some (.sl u, _), .nils => (match srcL E h u t1 t2 x with
    | some _ => some (true, .v (.int .i64) (0 : Int), h)
    | none => none)
  | _, _ => none
theorem arr_take {w : World} {ok : Nat → Prop} {u : Ty} {l : List (Den u)} {xs : List Value} (h : RepC w ok (.arr l.length u) l xs) (k : Nat) :
    RepC w ok (.arr (l.take k).length u) (l.take k) (xs.take ((l.take k).length * u.size)) := by
  obtain ⟨_, h1, h2⟩ := h
  have hle : (l.take k).length * u.size ≤ l.length * u.size := Nat.mul_le_mul_right _ (by simp; omega)
  refine ⟨rfl, by rw [List.length_take]; omega, fun i x hx => ?_⟩
  have hi := (List.getElem?_eq_some_iff.1 hx).1
  rw [List.getElem?_take] at hx
  split at hx
  · have := h2 i x hx
    have hle2 : (i + 1) * u.size ≤ (l.take k).length * u.size := Nat.mul_le_mul_right _ hi
    rw [Nat.add_mul, Nat.one_mul] at hle2
    have e : (((xs.take ((l.take k).length * u.size)).drop (i * u.size)).take u.size) = ((xs.drop (i * u.size)).take u.size) := by
      apply List.ext_getElem?
      intro q
      simp only [List.getElem?_take, List.getElem?_drop]
      split
      · rw [if_pos (by omega)]
      · rfl
    rw [e]; exact this
  · cases hx
theorem arr_drop {w : World} {ok : Nat → Prop} {u : Ty} {l : List (Den u)} {xs : List Value} (h : RepC w ok (.arr l.length u) l xs) (k : Nat) (_hk : k ≤ l.length) :
    RepC w ok (.arr (l.drop k).length u) (l.drop k) (xs.drop (k * u.size)) := by
  obtain ⟨_, h1, h2⟩ := h
  refine ⟨rfl, by rw [List.length_drop, List.length_drop, h1, Nat.sub_mul], fun i x hx => ?_⟩
  rw [List.getElem?_drop] at hx
  have := h2 _ x hx
  rw [List.drop_drop, ← Nat.add_mul]
  exact this
/-- What the source of a copy holds. -/
theorem src_first {E : Env} {c : Cx} {h : Hp} {u : Ty} {t1 t2 : TypeId} {x : AV} {l2 : List (Den u)} {w : Value} {b : Bool} (ho : c.Ok E) (hh : c.objs = h.objs) (hsrc : srcL E h u t1 t2 x = some (b, l2)) (h2 : AVL c x [w]) (n : Nat) (hn : n ≤ l2.length) :
    (Builtin.lenOf w).run c.P c.w = .ok l2.length c.w ∧ ∃ news, (Builtin.firstCells u.size n w).run c.P c.w = .ok (List.toArray news) c.w ∧ RepC c.w c.okb (.arr (l2.take n).length u) (l2.take n) news := by
  have hlt : (l2.take n).length = n := by simp; omega
  unfold srcL at hsrc
  split at hsrc
  · simp only [Option.map_eq_some_iff] at hsrc
    obtain ⟨l', hl', he⟩ := hsrc
    simp only [Prod.mk.injEq] at he
    obtain ⟨_, rfl⟩ := he
    obtain ⟨a, cap, hw, _, hx⟩ := rdT_ok ho hh hl' h2
    subst hw
    refine ⟨rfl, ?_⟩
    rcases hx with hx | ⟨bb, o, rfl, _, hx2⟩
    · subst hx
      have hn0 : n = 0 := by simpa using hn
      subst hn0
      refine ⟨[], ?_, arr_nil⟩
      cases a <;> simp [Builtin.firstCells, loadCells, loadCellsFrom]
    · obtain ⟨news, k1, k2⟩ := slice_news hx2
      refine ⟨news.take ((l'.take n).length * u.size), ?_, arr_take k2 n⟩
      have hle : n * u.size ≤ l'.length * u.size := Nat.mul_le_mul_right _ hn
      have hnl : news.length = l'.length * u.size := k2.2.1
      exact run_firstCells_some (P := c.P) c.w u.size n ⟨bb, o, none⟩ l'.length cap (news.take ((l'.take n).length * u.size)) (by rw [List.length_take, hlt]; omega) (fun j v hj => by
        rw [List.getElem?_take] at hj
        split at hj
        · rw [addr_add]; exact k1 j v hj
        · cases hj)
  · split at hsrc
    · split at hsrc
      · rename_i nb2 l' hty2 hb
        have hb' := Ty.beq_eq hb
        subst hb'
        simp only [Option.some.injEq, Prod.mk.injEq] at hsrc
        obtain ⟨_, rfl⟩ := hsrc
        obtain ⟨w', hw, hy⟩ := h2
        cases hw
        have hy := VRep_str hy
        subst hy
        refine ⟨by simp [Builtin.lenOf, bstr_size, castD], strCells (bstr (l'.take n)), ?_, strCells_rep (l'.take n)⟩
        simp only [Builtin.firstCells, Sem.run_pure, Result.ok.injEq, and_true]
        apply Array.ext'
        simp [strCells, bstr, List.map_take]
      · cases hsrc
    · cases hsrc
theorem take_min {α : Type} (l2 l : List α) : l2.take l.length ++ l.drop l2.length = l2.take (min l2.length l.length) ++ l.drop (min l2.length l.length) := by
  rcases Nat.le_total l2.length l.length with h | h
  · rw [Nat.min_eq_left h, List.take_of_length_le h, List.take_of_length_le (Nat.le_refl _)]
  · rw [Nat.min_eq_right h, List.drop_eq_nil_of_le h, List.drop_eq_nil_of_le (Nat.le_refl _)]
theorem oCopy_ok {E : Env} {c : Cx} {h h' : Hp} {t1 t2 ty : TypeId} {d x av : AV} {g : Bool} {v w : Value} (hE : E.Ok c.P) (ho : c.Ok E) (hh : c.objs = h.objs)
    (hl : oCopy E h t1 t2 d x = some (g, av, h')) (h1 : AVL c d [v]) (h2 : AVL c x [w]) : Good E c h h' (do pure (.value (← Builtin.copy_ #[t1, t2] ty #[v, w]))) av := by
  unfold oCopy at hl
  split at hl
  · rename_i u nb o hty
    have hc := (hE.ty t1 _ nb hty).1
    obtain ⟨e', he1, he2⟩ := chk_sl hc
    split at hl
    · rename_i b l2 e u' l hsrc hgo
      split at hl
      · rename_i hb
        have hb' := Ty.beq_eq hb
        subst hb'
        simp only [Option.some.injEq, Prod.mk.injEq] at hl
        obtain ⟨_, rfl, rfl⟩ := hl
        obtain ⟨v', hv, _, hrr⟩ := h1
        cases hv
        have hgo' : c.objs.getD o .free = .row e u l true := by rw [hh]; exact hgo
        unfold RslRel at hrr
        rw [hgo'] at hrr
        subst hrr
        have hob := ho.objs o
        rw [hgo'] at hob
        have hlt : o < h.objs.length := get_lt (by rw [hgo]; rfl)
        have hcast : castD (a := .sl u) (b := .sl u) hb (l2.take l.length) ++ l.drop l2.length = l2.take (min l2.length l.length) ++ l.drop (min l2.length l.length) := take_min l2 l
        rw [hcast]
        obtain ⟨hlen, news, hf, hr⟩ := src_first ho hh hsrc h2 (min l2.length l.length) (Nat.min_le_left _ _)
        have hlt2 : (l2.take (min l2.length l.length)).length = min l2.length l.length := by simp
        have hnl : news.length = min l2.length l.length * u.size := by have := hr.2.1; rw [hlt2] at this; exact this
        have hlen2 : (l2.take (min l2.length l.length) ++ l.drop (min l2.length l.length)).length = l.length := by simp; omega
        rcases hob with ⟨a, hu1, hu2⟩ | ⟨blk, cap, xs, hu1, hcap, hown, hrep⟩
        · subst hu2
          have hm0 : min l2.length ([] : List (Den u)).length = 0 := by simp
          rw [hm0] at hf hnl ⊢
          have hnews : news = [] := List.eq_nil_of_length_eq_zero (by omega)
          subst hnews
          have hrun : (Builtin.copy_ #[t1, t2] ty #[c.φ o, w]).run c.P c.w = .ok (goInt 0) c.w := by
            rw [hu1]
            cases a <;> simp [Builtin.copy_, run_underlying he1, hlen, run_sizeOf he2, hf, storeCells]
          obtain ⟨c', w1, w2, w3, w4, w5⟩ := Cx.write ho o (by rw [hgo']; rfl) (.row e u [] true) (by rw [hgo']; exact ⟨rfl, rfl, rfl⟩) rfl c.w rfl rfl rfl rfl (fun _ _ => rfl) (fun c' hev hw => .inl ⟨a, hu1, rfl⟩)
          exact Good.of_val hrun ⟨c', w1, by rw [w2, hh]; rfl, w4, w5, Hp.Agr.set h o _ (by omega), vint c' .i64 _ _ rfl⟩
        · rcases hown.2 with ⟨h3, _⟩ | ⟨gg, cap', cur, h3, h4, h5, h6, h7, h8, h9⟩
          · rw [hu1] at h3; cases h3
          · rw [hu1] at h3; cases h3
            have hrow : RepC c.w c.okb (.arr l.length u) l xs := ⟨rfl, hown.1, hrep⟩
            have hmle : min l2.length l.length * u.size ≤ l.length * u.size := Nat.mul_le_mul_right _ (Nat.min_le_right _ _)
            have hcle : l.length * u.size ≤ cap * u.size := Nat.mul_le_mul_right _ h6
            have hcl : cur.toList.length = cap * u.size := by simpa using h8
            have hst := run_storeCells_at c.P blk 0 e news 0 cur c.w h5 (by omega) hr.cells1
            simp only [Nat.zero_add, Nat.add_zero, List.take_zero, List.nil_append] at hst
            have hrun : (Builtin.copy_ #[t1, t2] ty #[c.φ o, w]).run c.P c.w = .ok (goInt (min l2.length l.length : Nat)) (c.w.setRow blk (news ++ cur.toList.drop news.length).toArray) := by
              rw [hu1]
              have hmin : Nat.min l2.length l.length = min l2.length l.length := rfl
              simp [Builtin.copy_, run_underlying he1, hlen, run_sizeOf he2, hmin, hf, hst]
            have hnew := arr_append hr (arr_drop hrow (min l2.length l.length) (Nat.min_le_right _ _))
            have htake : (news ++ cur.toList.drop news.length).take (l.length * u.size) = news ++ xs.drop (min l2.length l.length * u.size) := by
              rw [← h9]
              apply List.ext_getElem?
              intro q
              rw [List.getElem?_take]
              rcases Nat.lt_or_ge q news.length with hq | hq
              · rw [List.getElem?_append_left hq, List.getElem?_append_left hq, if_pos (by omega)]
              · rw [List.getElem?_append_right hq, List.getElem?_append_right hq, List.getElem?_drop, List.getElem?_drop, List.getElem?_take, ← hnl]
                by_cases h10 : q < l.length * u.size
                · rw [if_pos h10, if_pos (by omega)]
                · rw [if_neg h10, if_neg (by omega)]
            obtain ⟨c', w1, w2, w3, w4, w5⟩ := Cx.write ho o (by rw [hgo']; rfl) (.row e u (l2.take (min l2.length l.length) ++ l.drop (min l2.length l.length)) true) (by rw [hgo']; exact ⟨rfl, rfl, hlen2.symm⟩) rfl
              (c.w.setRow blk (news ++ cur.toList.drop news.length).toArray) rfl rfl rfl (by simp [World.setRow]) (fun k hk => setRow_get _ _ _ _ (fun e => hk (by rw [hu1, e]; simp [blkOf]; omega)))
              (fun c' hev hw => .inr ⟨blk, cap, news ++ xs.drop (min l2.length l.length * u.size), by rw [hu1, hlen2], hcap,
                ⟨by rw [hnew.2.1], .inr ⟨blk, cap, _, by rw [hu1, hlen2], Nat.zero_le _, by rw [hw]; exact setRow_heap c.w blk _ _ _ _ h5, by rw [hlen2]; exact h6, h7, by rw [List.size_toArray, List.length_append, List.length_drop, hcl]; omega, by rw [hlen2]; simpa using htake⟩⟩,
                fun i x hx => (hnew.2.2 i x hx).mono hev.okb⟩)
            exact Good.of_val hrun ⟨c', w1, by rw [w2, hh]; rfl, w4, w5, Hp.Agr.set h o _ (by omega), vint c' .i64 _ _ rfl⟩
      · cases hl
    · cases hl
  · rename_i u nb hty
    have hc := (hE.ty t1 _ nb hty).1
    obtain ⟨e', he1, he2⟩ := chk_sl hc
    split at hl
    · rename_i bl hsrc
      simp only [Option.some.injEq, Prod.mk.injEq] at hl
      obtain ⟨_, rfl, rfl⟩ := hl
      obtain ⟨bb, l2⟩ := bl
      have h1 : [v] = [Value.slice none 0 0] := h1
      cases h1
      obtain ⟨hlen, news, hf, hr⟩ := src_first ho hh hsrc h2 0 (Nat.zero_le _)
      have hnl : news.length = 0 := by have := hr.2.1; simpa using this
      have hnews : news = [] := List.eq_nil_of_length_eq_zero hnl
      subst hnews
      have hrun : (Builtin.copy_ #[t1, t2] ty #[.slice none 0 0, w]).run c.P c.w = .ok (goInt 0) c.w := by
        simp [Builtin.copy_, run_underlying he1, hlen, run_sizeOf he2, hf]
      exact Good.of_val hrun ⟨c, rfl, hh, ho, Cx.Evol.refl c, Hp.Agr.refl _, vint c .i64 _ _ rfl⟩
    · cases hl
  · cases hl
end Go.Sy
