/- A symbolic evaluator of the model's code, shown sound once for every program (part 6 of 9): what it computes of a function is what the function does. -/
import Derived.Test.YtageoaecepnfnaaGreatDoorSyE
namespace Go.Sy
open Go Go.RowKit Go.Lib

theorem all_contains {l : List Nat} {p : Nat → Bool} (h : l.all p = true) {i : Nat} (hi : l.contains i = true) : p i = true := by
  rw [List.all_eq_true] at h
  exact h i (by simpa using hi)
theorem pack_ok {E : Env} {X : Pk} {c c' : Cx} {st s : St} {a a' : Act} {x : Den (itTy X.it)} (hs : Sm E c st a) (hs' : Sm E c' s a') (hg : Gone c st.clean a c' s a') (hp : pack X st.hp.objs.length s = some x) :
    ∃ c'', c''.w = c'.w ∧ Sm E c'' (unpack X st x) a' ∧ Gone c st a c'' (unpack X st x) a' := by
  unfold pack at hp
  split at hp
  rotate_left
  · cases hp
  rename_i h1 hf
  split at hp
  rotate_left
  · cases hp
  rename_i hck
  simp only [Bool.and_eq_true] at hck
  obtain ⟨⟨hH, hW⟩, hD⟩ := hck
  unfold packI at hp
  split at hp
  rotate_left
  · cases hp
  rename_i y m hpk
  split at hp
  rotate_left
  · cases hp
  rename_i hmv
  cases hp
  obtain ⟨ok1, ev1, agr1⟩ := frzI_ok hs'.ok hs'.objs hs'.av hf
  have av1 : ∀ i, AVL (c'.at h1) (s.tm.getD i .top) [a'.tmps.getD i undef] := fun i => (hs'.av i).evol ev1
  obtain ⟨hPI, hRows⟩ := pkI_ok (a := a') ok1 rfl av1 hpk
  have ev : c.Evol (c'.at h1) := hg.evol.trans ev1
  have agr : st.clean.hp.Agr h1 := hg.agr.trans agr1
  -- the objects' new names
  have hrl : (fRows X.it x).length = m.length := hRows.1
  let n0 := st.hp.objs.length
  let L : List Ob := upOb X n0 x st.hp.objs 0 ++ fRows X.it x
  let sf : Nat → Option Nat := fun o => if o < n0 then some o else m.getD (o - n0) none
  have hcl : c.objs.length = n0 := by rw [hs.objs]
  have hul : (upOb X n0 x st.hp.objs 0).length = n0 := upOb_len
  have L0 : ∀ o, o < n0 → L.getD o .free = if X.kd.contains o then .dead else match fBox X.it x n0 o with | some b => b | none => st.hp.objs.getD o .free := by
    intro o ho
    have e1 : L.getD o .free = (upOb X n0 x st.hp.objs 0).getD o .free := by
      simp only [L, List.getD_eq_getElem?_getD]
      rw [List.getElem?_append_left (by omega)]
    rw [e1, upOb_get ho, Nat.zero_add]; rfl
  have L1 : ∀ k, L.getD (n0 + k) .free = (fRows X.it x).getD k .free := by
    intro k
    simp only [L, List.getD_eq_getElem?_getD]
    rw [List.getElem?_append_right (by omega), hul, Nat.add_sub_cancel_left]
  have s0 : ∀ o, o < n0 → sf o = some o := fun o ho => if_pos ho
  have s1 : ∀ k, sf (n0 + k) = m.getD k none := fun k => by
    show (if n0 + k < n0 then some (n0 + k) else m.getD (n0 + k - n0) none) = _
    rw [if_neg (by omega), Nat.add_sub_cancel_left]
  have same : ∀ o, o < n0 → X.kd.contains o = false → isBox X.it o = false → (c'.at h1).objs.getD o .free = st.hp.objs.getD o .free := by
    intro o ho hk hbx
    refine agr.same o ho ?_
    cases hd : h1.dO.contains o with
    | false => rfl
    | true =>
      have := all_contains hD hd
      simp only [Bool.or_eq_true, hk, hbx] at this
      rcases this with (h2 | h2) | h2
      · have h3 := Nat.le_of_ble_eq_true h2; exact absurd h3 (by omega)
      · cases h2
      · cases h2
  have rowAt : ∀ k, k < m.length → ∃ (e : TypeId) (t : Ty) (l : List (Den t)), L.getD (n0 + k) .free = .row e t l true ∧ match m.getD k none with
      | some o => (c'.at h1).objs.getD o .free = .row e t l true
      | none => l = [] := by
    intro k hk
    have hk2 : k < (fRows X.it x).length := by omega
    obtain ⟨e, t, l, q1, q2⟩ := hRows.2 k _ _ (List.getElem?_eq_getElem hk2) (List.getElem?_eq_getElem hk)
    refine ⟨e, t, l, ?_, ?_⟩
    · rw [L1, List.getD_eq_getElem?_getD, List.getElem?_eq_getElem hk2]; exact q1
    · rw [List.getD_eq_getElem?_getD, List.getElem?_eq_getElem hk]
      simp only [Option.getD_some]
      split at q2
      · rename_i o ho; rw [ho]; simp only; rw [q2, q1]
      · rename_i ho; rw [ho]; exact q2
  have beyond : ∀ k, m.length ≤ k → L.getD (n0 + k) .free = .free ∧ sf (n0 + k) = none := by
    intro k hk
    refine ⟨by rw [L1]; exact getD_ge (by omega), by rw [s1, List.getD_eq_getElem?_getD, List.getElem?_eq_none hk]; rfl⟩
  have up := upI_ok (c := c'.at h1) (L := L) (s := sf) (a := a') (it := X.it) (x := x) (m := m) (n := n0)
  -- what is written stays what is written
  have k1 : ∀ o o', sf o = some o' → (L.getD o .free).mut = true → ((c'.at h1).objs.getD o' .free).mut = true := by
    intro o o' hso hm
    rcases Nat.lt_or_ge o n0 with ho | ho
    · rw [s0 o ho] at hso; cases hso
      rw [L0 o ho] at hm
      cases hk : X.kd.contains o with
      | true => rw [hk] at hm; cases hm
      | false =>
        rw [hk] at hm
        simp only [Bool.false_eq_true, if_false] at hm
        cases hb : isBox X.it o with
        | false =>
          have h2 : (boxesOf X.it).contains o = false := by
            cases h3 : (boxesOf X.it).contains o with
            | false => rfl
            | true =>
              exfalso
              have : ∀ it : List (Loc × BPk), (boxesOf it).contains o = true → isBox it o = true := by
                intro it
                induction it with
                | nil => intro h; cases h
                | cons y r ih =>
                  obtain ⟨l, b⟩ := y
                  cases l with
                  | slot j => intro h; simp only [isBox, List.any_cons, Bool.false_or]; exact ih h
                  | box p =>
                    intro h
                    simp only [boxesOf, List.contains_cons, Bool.or_eq_true] at h
                    simp only [isBox, List.any_cons, Bool.or_eq_true]
                    rcases h with h | h
                    · left; have : o = p := by simpa using h
                      subst this; exact Nat.beq_refl o
                    · exact .inr (ih h)
              rw [this _ h3] at hb; cases hb
          rw [fBox_none h2] at hm
          rw [same o ho hk hb]; exact hm
        | true =>
          -- a variable
          have : ∀ {it : List (Loc × BPk)} {x : Den (itTy it)} {m : List (Option Nat)}, isBox it o = true → PI (c'.at h1) a' it x m → ∃ t bt, (c'.at h1).objs.getD o .free = .box t bt := by
            intro it
            induction it with
            | nil => intro x m h; simp [isBox] at h
            | cons y r ih =>
              obtain ⟨l, b⟩ := y
              intro x m h hp
              simp only [isBox, List.any_cons, Bool.or_eq_true] at h
              cases l with
              | slot j =>
                obtain ⟨m1, m2, _, _, _, h2⟩ := hp
                rcases h with h | h
                · cases h
                · exact ih h h2
              | box p =>
                obtain ⟨m1, m2, _, _, ⟨blk, e, cs, bt, _, _, _, q4⟩, h2⟩ := hp
                rcases h with h | h
                · have := Nat.eq_of_beq_eq_true h
                  subst this
                  exact ⟨_, _, q4⟩
                · exact ih h h2
          obtain ⟨t, bt, h4⟩ := this hb hPI
          rw [h4]; rfl
    · obtain ⟨k, rfl⟩ : ∃ k, o = n0 + k := ⟨o - n0, by omega⟩
      rcases Nat.lt_or_ge k m.length with hk | hk
      · obtain ⟨e, t, l, _, q2⟩ := rowAt k hk
        rw [s1] at hso
        rw [hso] at q2
        simp only at q2
        rw [q2]; rfl
      · rw [(beyond k hk).2] at hso; cases hso
  have k1 := fun o o' h3 h4 => (.inl (k1 o o' h3 h4) : ((c'.at h1).objs.getD o' .free).mut = true ∨ blkOf ((c'.at h1).φ o') = none)
  have hbb := Cx.re_okb (c := c'.at h1) (L := L) (s := sf) k1
  obtain ⟨upS, upX⟩ := up hbb hPI (fun k o hk => by rw [s1, List.getD_eq_getElem?_getD, hk]; rfl) (fun k ob hk => by rw [L1, List.getD_eq_getElem?_getD, hk]; rfl)
  -- the four kinds of objects
  have kinds : ∀ o, o < n0 → (X.kd.contains o = true ∧ L.getD o .free = .dead) ∨
      (X.kd.contains o = false ∧ ∃ t bt bt0, L.getD o .free = .box t bt ∧ (c'.at h1).objs.getD o .free = .box t bt0 ∧ ORel ((c'.at h1).re L sf) ((c'.at h1).φ o) (.box t bt)) ∨
      (X.kd.contains o = false ∧ L.getD o .free = st.hp.objs.getD o .free ∧ (c'.at h1).objs.getD o .free = st.hp.objs.getD o .free) := by
    intro o ho
    have hL := L0 o ho
    cases hk : X.kd.contains o with
    | true => rw [hk] at hL; exact .inl ⟨rfl, hL⟩
    | false =>
      rw [hk] at hL
      simp only [Bool.false_eq_true, if_false] at hL
      right
      cases hb : isBox X.it o with
      | true =>
        obtain ⟨ob, hob⟩ := fBox_some (x := x) (n := n0) hb
        obtain ⟨t, bt, bt0, q1, q2, q3⟩ := upX o ob hob
        rw [hob] at hL
        subst q1
        exact .inl ⟨rfl, t, bt, bt0, hL, q2, q3⟩
      | false =>
        refine .inr ⟨rfl, ?_, same o ho hk hb⟩
        cases hfb : fBox X.it x n0 o with
        | none => rw [hfb] at hL; exact hL
        | some ob =>
          exfalso
          have : ∀ {it : List (Loc × BPk)} {x : Den (itTy it)} {n : Nat}, fBox it x n o = some ob → isBox it o = true := by
            intro it
            induction it with
            | nil => intro x n h; simp [fBox] at h
            | cons y r ih =>
              obtain ⟨l, b⟩ := y
              intro x n h
              cases l with
              | slot j => simp only [isBox, List.any_cons, Bool.false_or]; exact ih h
              | box p =>
                simp only [isBox, List.any_cons, Bool.or_eq_true]
                simp only [fBox] at h
                split at h
                · rename_i e; exact .inl e
                · exact .inr (ih h)
          rw [this hfb] at hb; cases hb
  have phi0 : ∀ o, o < n0 → ((c'.at h1).re L sf).φ o = (c'.at h1).φ o := fun o ho => by
    show (match sf o with | some o' => (c'.at h1).φ o' | none => .slice none 0 0) = _
    rw [s0 o ho]
  have mv : Mv (c'.at h1) ((c'.at h1).re L sf) (· < n0) := by
    refine ⟨rfl, Cx.re_okr k1, hbb, fun o p u ho hr => ?_, fun o u ho hr => ?_⟩
    · unfold RefRel at hr ⊢
      rw [phi0 o ho]
      rcases kinds o ho with ⟨_, q⟩ | ⟨_, t, bt, bt0, q1, q2, _⟩ | ⟨_, q1, q2⟩
      · have q : ((c'.at h1).re L sf).objs.getD o .free = .dead := q
        rw [q]; trivial
      · have q1 : ((c'.at h1).re L sf).objs.getD o .free = .box t bt := q1
        rw [q1]; rw [q2] at hr; exact hr
      · have q1 : ((c'.at h1).re L sf).objs.getD o .free = st.hp.objs.getD o .free := q1
        rw [q1, ← q2]; exact hr
    · unfold RslRel at hr ⊢
      rw [phi0 o ho]
      rcases kinds o ho with ⟨_, q⟩ | ⟨_, t, bt, bt0, q1, q2, _⟩ | ⟨_, q1, q2⟩
      · have q : ((c'.at h1).re L sf).objs.getD o .free = .dead := q
        rw [q]; trivial
      · have q1 : ((c'.at h1).re L sf).objs.getD o .free = .box t bt := q1
        rw [q1]; rw [q2] at hr; exact hr
      · have q1 : ((c'.at h1).re L sf).objs.getD o .free = st.hp.objs.getD o .free := q1
        rw [q1, ← q2]; exact hr
  have ok2 : ((c'.at h1).re L sf).Ok E := by
    refine Cx.re_ok ok1 k1 (fun o p q hne ho hp hmo hmp => ?_) (fun o => ?_) (fun o e t l ho b hb => ?_)
    · rcases Nat.lt_or_ge o n0 with h2 | h2 <;> rcases Nat.lt_or_ge p n0 with h3 | h3
      · rw [s0 o h2] at ho; rw [s0 p h3] at hp; cases ho; cases hp; exact hne rfl
      · rw [s0 o h2] at ho; cases ho
        obtain ⟨k, rfl⟩ : ∃ k, p = n0 + k := ⟨p - n0, by omega⟩
        rw [s1, List.getD_eq_getElem?_getD] at hp
        cases hmk : m[k]? with
        | none => rw [hmk] at hp; cases hp
        | some z =>
          rw [hmk] at hp
          have hp : z = some o := hp
          subst hp
          rcases movOk_lo hmv hmk with h4 | h4
          · omega
          · rcases kinds o h2 with ⟨_, q⟩ | ⟨q, _⟩ | ⟨q, _⟩
            · rw [q] at hmo; cases hmo
            · rw [h4] at q; cases q
            · rw [h4] at q; cases q
      · rw [s0 p h3] at hp; cases hp
        obtain ⟨k, rfl⟩ : ∃ k, o = n0 + k := ⟨o - n0, by omega⟩
        rw [s1, List.getD_eq_getElem?_getD] at ho
        cases hmk : m[k]? with
        | none => rw [hmk] at ho; cases ho
        | some z =>
          rw [hmk] at ho
          have ho : z = some p := ho
          subst ho
          rcases movOk_lo hmv hmk with h4 | h4
          · omega
          · rcases kinds p h3 with ⟨_, q⟩ | ⟨q, _⟩ | ⟨q, _⟩
            · rw [q] at hmp; cases hmp
            · rw [h4] at q; cases q
            · rw [h4] at q; cases q
      · obtain ⟨j, rfl⟩ : ∃ k, o = n0 + k := ⟨o - n0, by omega⟩
        obtain ⟨k, rfl⟩ : ∃ k, p = n0 + k := ⟨p - n0, by omega⟩
        rw [s1, List.getD_eq_getElem?_getD] at ho hp
        cases hmj : m[j]? with
        | none => rw [hmj] at ho; cases ho
        | some z =>
          cases hmk : m[k]? with
          | none => rw [hmk] at hp; cases hp
          | some z' =>
            rw [hmj] at ho; rw [hmk] at hp
            have ho : z = some q := ho
            have hp : z' = some q := hp
            subst ho; subst hp
            exact hne (by rw [movOk_inj hmv hmj hmk])
    · rcases Nat.lt_or_ge o n0 with h2 | h2
      · rcases kinds o h2 with ⟨_, q⟩ | ⟨_, t, bt, bt0, q1, q2, q3⟩ | ⟨_, q1, q2⟩
        · rw [q]; trivial
        · rw [q1, phi0 o h2]; exact q3
        · rw [q1, phi0 o h2, ← q2]
          refine ORel.mv mv ?_ (ok1.objs o)
          rw [q2]
          have := (hs.ok.objs o).lo
          rw [hcl, hs.objs] at this
          exact this
      · obtain ⟨k, rfl⟩ : ∃ k, o = n0 + k := ⟨o - n0, by omega⟩
        rcases Nat.lt_or_ge k m.length with hk | hk
        · obtain ⟨e, t, l, q1, q2⟩ := rowAt k hk
          rw [q1]
          have hphi : ((c'.at h1).re L sf).φ (n0 + k) = srcV (c'.at h1) (m.getD k none) := by
            show (match sf (n0 + k) with | some o' => (c'.at h1).φ o' | none => .slice none 0 0) = _
            rw [s1]
            cases m.getD k none <;> rfl
          rw [hphi]
          cases hmk : m.getD k none with
          | none => rw [hmk] at q2; simp only at q2; subst q2; exact .inl ⟨none, rfl, rfl⟩
          | some q =>
            rw [hmk] at q2
            simp only at q2
            have := ok1.objs q
            rw [q2] at this
            exact ORel.mv mv (ob := .row e t l true) trivial this
        · rw [(beyond k hk).1]; trivial
    · rcases Nat.lt_or_ge o n0 with h2 | h2
      · rcases kinds o h2 with ⟨_, q⟩ | ⟨_, t', bt, bt0, q1, q2, q3⟩ | ⟨_, q1, q2⟩
        · rw [q] at ho; cases ho
        · rw [q1] at ho; cases ho
        · rw [phi0 o h2] at hb
          rw [q1, ← q2] at ho
          exact ok1.froz o e t l ho b hb
      · obtain ⟨k, rfl⟩ : ∃ k, o = n0 + k := ⟨o - n0, by omega⟩
        rcases Nat.lt_or_ge k m.length with hk | hk
        · obtain ⟨e, t, l, q1, _⟩ := rowAt k hk
          rw [q1] at ho; cases ho
        · rw [(beyond k hk).1] at ho; cases ho
  have noH : ∀ o, X.kd.contains o = true → (c.objs.getD o .free).isHid = false := by
    intro o ho
    cases hx : (c.objs.getD o .free).isHid with
    | false => rfl
    | true =>
      have h2 := Ob.leads_hid (hg.evol.kinds o) hx
      have h3 := all_contains hH ho
      have h4 : c'.objs.getD o .free = s.hp.get o := by rw [hs'.objs]; rfl
      rw [h4] at h2
      rw [h2] at h3; cases h3
  have ev2 : c.Evol ((c'.at h1).re L sf) := by
    refine Cx.re_evol ev k1 fun o ho => ?_
    have h2 : o < n0 := by
      rcases Nat.lt_or_ge o n0 with h2 | h2
      · exact h2
      · rw [getD_ge (by omega)] at ho; cases ho
    refine ⟨s0 o h2, ?_⟩
    rcases kinds o h2 with ⟨qk, q⟩ | ⟨_, t, bt, bt0, q1, q2, q3⟩ | ⟨_, q1, q2⟩
    · rw [q]
      have h5 := noH o qk
      cases hx : c.objs.getD o .free <;> rw [hx] at ho h5 <;> simp [Ob.isHid] at ho h5 <;> trivial
    · rw [q1]
      have := ev.kinds o
      rw [q2] at this
      cases hx : c.objs.getD o .free <;> rw [hx] at ho this <;> simp at ho <;> first | exact this | exact this.elim
    · rw [q1, hs.objs]; exact Ob.leads_refl _
  have noW : ∀ i, X.W.contains i = false → s.dT.contains i = false := by
    intro i hi
    cases hd : s.dT.contains i with
    | false => rfl
    | true => have := all_contains hW hd; rw [hi] at this; cases this
  refine ⟨(c'.at h1).re L sf, rfl, ⟨ok2, rfl, ?_, fun i => ?_, hs'.defers⟩, ⟨ev2, ⟨?_, fun o ho => ?_, fun o ho hd => ?_⟩, fun i hi => ?_, fun i hi => ?_, upTm_len⟩⟩
  · rw [hs'.size, hg.len]; show st.clean.tm.length = (upTm X n0 x st.tm 0).length; rw [upTm_len]; rfl
  · show AVL _ ((upTm X n0 x st.tm 0).getD i .top) _
    rw [upTm_get, Nat.zero_add]
    split
    · split
      · rename_i av hav; exact upS i av hav
      · cases hi : X.W.contains i with
        | true => exact ⟨_, rfl⟩
        | false =>
          simp only [Bool.false_eq_true, if_false]
          rw [hg.tm i (noW i hi)]
          exact (hs.av i).evol ev2
    · exact ⟨_, rfl⟩
  · show n0 ≤ L.length; simp [L, hul]
  · show (X.kd ++ (boxesOf X.it ++ (List.range' n0 (fRows X.it x).length ++ st.hp.dO))).contains o = true
    simp only [List.contains_eq_mem, List.mem_append, decide_eq_true_eq] at ho ⊢
    exact .inr (.inr (.inr ho))
  · have hd : (X.kd ++ (boxesOf X.it ++ (List.range' n0 (fRows X.it x).length ++ st.hp.dO))).contains o = false := hd
    simp only [List.contains_eq_mem, List.mem_append, decide_eq_false_iff_not, not_or] at hd
    show L.getD o .free = st.hp.objs.getD o .free
    rw [L0 o ho, if_neg (by simpa using hd.1), fBox_none (by simpa using hd.2.1)]
  · show (X.W ++ st.dT).contains i = true
    simp only [List.contains_eq_mem, List.mem_append, decide_eq_true_eq] at hi ⊢
    exact .inr hi
  · have hi : (X.W ++ st.dT).contains i = false := hi
    simp only [List.contains_eq_mem, List.mem_append, decide_eq_false_iff_not, not_or] at hi
    exact hg.tm i (noW i (by simpa using hi.1))
end Go.Sy
